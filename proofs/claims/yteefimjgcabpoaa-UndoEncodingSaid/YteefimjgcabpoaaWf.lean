/- The wire's readers: the program's Int, Bounded, Bytes, Read, End -/
import Derived.Test.YteefimjgcabpoaaWe
namespace Go.Wi
open Go Go.RowKit Go.Bs Go.Cl Go.Rw
/-- the reader behind a method -/
def RdR (T : TypeId) (w : World) (g : Nat) (bv : Value) (b : List UInt8) (s : Nat × Bool) (w' : World) : Prop := RdAt T w' g bv b s.1 s.2 ∧ Keep [g] w w'
/-- n, ok and the position p are what reading at at_ gives -/
def IsI (b : List UInt8) (at_ : Nat) (n : Int) (ok : Bool) (p : Nat) : Prop := match rdI b at_ with | some (x, m) => n = x ∧ ok = true ∧ p = at_ + m | none => n = 0 ∧ ok = false
theorem IsI.done {b : List UInt8} {at_ p : Nat} {n : Int} {ok : Bool} (h : IsI b at_ n ok p) : rI b (at_, false) = (n, if ok then (p, false) else (at_, true)) := by
  unfold IsI at h
  unfold rI
  simp only [Bool.false_eq_true, if_false]
  cases hd : rdI b at_ with
  | none => rw [hd] at h; obtain ⟨rfl, rfl⟩ := h; rfl
  | some q => obtain ⟨x, m⟩ := q; rw [hd] at h; obtain ⟨rfl, rfl, rfl⟩ := h; rfl
theorem box_set {w : World} {r : Nat} {x u : Value} {t : TypeId} {fz : Nat × Nat} (h : w.heap[r]? = some (.cells #[x] t fz)) : (w.setCell ⟨r, 0, none⟩ u).heap[r]? = some (.cells #[u] t fz) := by
  simp only [World.setCell, Array.getElem?_modify]; simp [h]
theorem RdAt.ne {T : TypeId} {w : World} {g at_ : Nat} {bv : Value} {b : List UInt8} {fl : Bool} (h : RdAt T w g bv b at_ fl) {r : Nat} (hr : w.heap.size ≤ r) : r ≠ g := by have := h.lt; omega
end Go.Wi
namespace Go.Proofs.Yteefimjgcabpoaa
open Go.RowKit Go.Bs Go.Cl Go.Rw Go.Wi
set_option maxHeartbeats 1000000 in
/-- the closure of Int -/
theorem wintC_any (g r0 r1 : Nat) (bv : Value) (b : List UInt8) (at_ : Nat) (w : World) (h : RdAt 93 w g bv b at_ false) (hbl : b.length ≤ 1000000) (h0 : w.heap[r0]? = some (.cells #[.pointer (some ⟨g, 0, none⟩)] 79 (0, 0))) (h1 : w.heap[r1]? = some (.cells #[.int .i64 0] 3 (0, 0))) (hr0 : r0 ≠ g) (hr1 : r1 ≠ g) (hb1 : Bytes [r1] w bv b) :
    Calls Try.prog 62 #[.pointer (some ⟨r0, 0, none⟩), .pointer (some ⟨r1, 0, none⟩)] w fun e w1 => ∃ ok p, e = .returned (.bool ok) ∧ RdAt 93 w1 g bv b p false ∧
      (Keep [g, r1] w w1 ∧ ∃ n, w1.heap[r1]? = some (.cells #[.int .i64 n] 3 (0, 0)) ∧ IsI b at_ n ok p) := by
  have c0 := box_at h0 (j := 0) rfl
  have hl0 : r0 < w.heap.size := (Array.getElem?_eq_some_iff.1 h0).1
  have hl1 : r1 < w.heap.size := (Array.getElem?_eq_some_iff.1 h1).1
  have H := Lib.hid h; clear h h0
  have H1 := Lib.hid h1; clear h1
  have HB1 := Lib.hid hb1; clear hb1
  go_enter Try.func62, Try.ntmps62
  go_wp2_with fail
  refine (wint63_any g bv b at_ false _ H.out hbl).mono ?_
  rintro e w1 ⟨n, ok, p, rfl, hr, hk, hp, hm⟩
  have hh1 := (hk.block r1 hl1 (by simpa using hr1)).trans H1.out
  have c1 := box_at hh1 (j := 0) rfl
  have f1 := box_free hh1 0
  have hk2 : Keep [r1] w1 (w1.setCell ⟨r1, 0, none⟩ (.int .i64 n)) := (Keep.refl [r1] w1).setCell (by simp) _
  have hr2 := hr.keep hk2 (by simp; exact fun e => hr1 e.symm) (Raw.keep (Raw.both (Raw.to_nil H.out.hb) (Raw.both H.out.hb HB1.out)) hk (fun f hf => .inl (by simp at hf ⊢; exact .inl hf)) (fun f hf => .inl (by simp at hf ⊢; exact .inr hf)))
  have Hr2 := Lib.hid hr2
  have Hk := Lib.hid ((hk.mono (F' := [g, r1]) (fun f hf => .inl (by simp at hf ⊢; exact .inl hf))).trans hk2 (fun f hf => .inl (by simp at hf ⊢; exact .inr hf)))
  have Hm : Hid (IsI b at_ n ok p) := Lib.hid hm
  have hc : (w1.setCell ⟨r1, 0, none⟩ (.int .i64 n)).heap[r1]? = some (.cells #[.int .i64 n] 3 (0, 0)) := box_set hh1
  have Hc := Lib.hid hc
  clear hr hk hm hk2 hr2 hc
  go_wp2
  go_ret
  exact ⟨ok, p, rfl, Hr2.out, Hk.out, n, Hc.out, Hm.out⟩
set_option maxHeartbeats 1000000 in
theorem wInt_any (g : Nat) (bv : Value) (b : List UInt8) (at_ : Nat) (fl : Bool) (w : World) (h : RdAt 93 w g bv b at_ fl) (hbl : b.length ≤ 1000000) :
    Calls Try.prog 45 #[.pointer (some ⟨g, 0, none⟩)] w fun e w' => e = .returned (.int .i64 (rI b (at_, fl)).1) ∧ RdR 93 w g bv b (rI b (at_, fl)).2 w' := by
  have hb0 := (Below.refl w.heap.size w).alloc (Nat.le_refl _) (.cells #[.pointer (some ⟨g, 0, none⟩)] 79)
  have hb := hb0.alloc (by simp) (.cells #[.int .i64 0] 3)
  have hlt := h.lt
  have H := Lib.hid (h.below hb)
  have hB1 : Bytes [w.heap.size + 1] ((w.alloc (.cells #[.pointer (some ⟨g, 0, none⟩)] 79)).alloc (.cells #[.int .i64 0] 3)) bv b := Raw.keep h.hb (Keep.of_below' (F := []) hb) (fun f hf => by cases hf) (fun f hf => by rw [List.mem_singleton.1 hf]; exact .inr (by omega))
  have HB1 := Lib.hid hB1
  have Hb := Lib.hid hb
  have Hw := Lib.hid h.hb
  clear hb hb0 hB1 h
  cases fl
  · have hcl := wintC_any g w.heap.size (w.heap.size + 1) bv b at_ _ H.out hbl (by rw [heap_alloc_old _ _ (by simp)]; exact heap_alloc_new w _) (heap_alloc2_new w _ _) (by omega) (by omega) HB1.out
    have htry := wtry_any g bv b at_ _ _ _ _ H.out (run_enter Try.func62 (by kernel_rfl) rfl _) hcl
    have Htry := Lib.hid htry; clear htry hcl
    go_enter Try.func45, Try.ntmps45
    go_wp2_with fail
    refine Htry.out.mono ?_
    rintro e w1 ⟨⟨v, rfl⟩, ok, p, w2, ⟨hk, n, hn, hm⟩, hfin⟩
    have hk1 : RdR 93 w g bv b (if ok then (p, false) else (at_, true)) w1 ∧ w1.heap[w.heap.size + 1]? = some (.cells #[.int .i64 n] 3 (0, 0)) := by
      have hkw : Keep [g] w w2 := ((Keep.of_below' (F := [g, w.heap.size + 1]) Hb.out).trans hk (fun f hf => .inl hf)).mono (fun f hf => by simp at hf ⊢; omega)
      have hs2 : w.heap.size + 1 < w2.heap.size := by have := hk.size; simp at this; omega
      cases ok
      · obtain ⟨h1, h2⟩ := hfin
        have hk2 := hkw.trans h2 (fun f hf => .inl hf)
        exact ⟨⟨h1, hk2⟩, (h2.block _ hs2 (by simp; omega)).trans hn⟩
      · obtain ⟨rfl, h1⟩ := hfin
        exact ⟨⟨h1, hkw⟩, hn⟩
    obtain ⟨hR, hn1⟩ := hk1
    have c1 := box_at hn1 (j := 0) rfl
    have f1 := box_free hn1 0
    have hend : RdR 93 w g bv b (if ok then (p, false) else (at_, true)) (w1.setCell ⟨w.heap.size + 1, 0, none⟩ (.int .i64 n)) := by
      have hks : Keep [w.heap.size + 1] w1 (w1.setCell ⟨w.heap.size + 1, 0, none⟩ (.int .i64 n)) := (Keep.refl [w.heap.size + 1] w1).setCell (by simp) _
      exact ⟨hR.1.keep hks (by simp; omega) (Raw.keep Hw.out hR.2 (fun f hf => .inl hf) (fun f hf => .inr (by simp at hf; omega))), (hR.2.trans hks (fun f hf => .inr (by simp at hf; omega)))⟩
    have hd := hm.done
    have Hend := Lib.hid hend
    have Hd := Lib.hid hd
    have Hn1 := Lib.hid (box_at (box_set (u := .int .i64 n) hn1) (j := 0) rfl)
    clear hk hn hm hfin hR hend hd hn1
    go_wp2
    refine bodyPost_ret (results_cell1 rfl _ rfl Try.underlying3 rfl Hn1.out) rfl ?_
    rw [Hd.out]
    exact ⟨rfl, Hend.out⟩
  · have hcell := box_at (heap_alloc2_new w (.cells #[.pointer (some ⟨g, 0, none⟩)] 79) (.cells #[.int .i64 0] 3)) (j := 0) rfl
    have Hend : Hid (RdR 93 w g bv b (at_, true) ((w.alloc (.cells #[.pointer (some ⟨g, 0, none⟩)] 79)).alloc (.cells #[.int .i64 0] 3))) := Lib.hid ⟨H.out, Keep.of_below' Hb.out⟩
    have Hn1 := Lib.hid hcell
    clear hcell
    have Htry := Lib.hid (fun fn => wtry_failed g bv b at_ fn _ H.out)
    go_enter Try.func45, Try.ntmps45
    go_wp2_with fail
    refine (Htry.out _).mono ?_
    rintro e w1 ⟨⟨v, rfl⟩, rfl⟩
    go_wp2
    refine bodyPost_ret (results_cell1 rfl _ rfl Try.underlying3 rfl Hn1.out) rfl ?_
    exact ⟨rfl, Hend.out⟩
end Go.Proofs.Yteefimjgcabpoaa
