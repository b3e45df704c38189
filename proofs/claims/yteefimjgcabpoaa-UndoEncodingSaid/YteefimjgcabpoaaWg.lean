/- The wire's readers: the program's Bounded -/
import Derived.Test.YteefimjgcabpoaaWf
namespace Go.Wi
open Go Go.RowKit Go.Bs Go.Cl Go.Rw
def IsB (b : List UInt8) (at_ : Nat) (lo hi : Int) (n : Int) (ok : Bool) (p : Nat) : Prop := match rdB b at_ lo hi with | some (x, m) => n = x ∧ ok = true ∧ p = at_ + m | none => n = 0 ∧ ok = false
theorem IsB.done {b : List UInt8} {at_ p : Nat} {lo hi n : Int} {ok : Bool} (h : IsB b at_ lo hi n ok p) : rB b lo hi (at_, false) = (n, if ok then (p, false) else (at_, true)) := by
  unfold IsB at h
  unfold rB
  simp only [Bool.false_eq_true, if_false]
  cases hd : rdB b at_ lo hi with
  | none => rw [hd] at h; obtain ⟨rfl, rfl⟩ := h; rfl
  | some q => obtain ⟨x, m⟩ := q; rw [hd] at h; obtain ⟨rfl, rfl, rfl⟩ := h; rfl
theorem IsB.of {b : List UInt8} {at_ p : Nat} {lo hi n : Int} {ok : Bool} (h : match rdB b at_ lo hi with | some (x, m) => n = x ∧ ok = true ∧ p = at_ + m | none => ok = false) : IsB b at_ lo hi (if ok then n else 0) ok p := by
  unfold IsB
  cases hd : rdB b at_ lo hi with
  | none => rw [hd] at h; simp only at h; subst h; exact ⟨rfl, rfl⟩
  | some q => obtain ⟨x, m⟩ := q; rw [hd] at h; obtain ⟨rfl, rfl, rfl⟩ := h; exact ⟨rfl, rfl, rfl⟩
end Go.Wi
namespace Go.Proofs.Yteefimjgcabpoaa
open Go.RowKit Go.Bs Go.Cl Go.Rw Go.Wi
set_option maxHeartbeats 1000000 in
/-- the closure of Bounded -/
theorem wboundedC_any (g r0 r1 r2 r3 : Nat) (bv : Value) (b : List UInt8) (at_ : Nat) (lo hi : Int) (w : World) (h : RdAt 93 w g bv b at_ false) (hbl : b.length ≤ 1000000)
    (c0 : w.cell? ⟨r0, 0, none⟩ = some (.pointer (some ⟨g, 0, none⟩))) (c1 : w.cell? ⟨r1, 0, none⟩ = some (.int .i64 lo)) (c2 : w.cell? ⟨r2, 0, none⟩ = some (.int .i64 hi))
    (h3 : w.heap[r3]? = some (.cells #[.int .i64 0] 3 (0, 0))) (hr3 : r3 ≠ g) (hb3 : Bytes [r3] w bv b) :
    Calls Try.prog 60 #[.pointer (some ⟨r0, 0, none⟩), .pointer (some ⟨r1, 0, none⟩), .pointer (some ⟨r2, 0, none⟩), .pointer (some ⟨r3, 0, none⟩)] w fun e w1 => ∃ ok p, e = .returned (.bool ok) ∧ RdAt 93 w1 g bv b p false ∧
      (Keep [g, r3] w w1 ∧ ∃ n, w1.heap[r3]? = some (.cells #[.int .i64 n] 3 (0, 0)) ∧ IsB b at_ lo hi n ok p) := by
  have hl3 : r3 < w.heap.size := (Array.getElem?_eq_some_iff.1 h3).1
  have H := Lib.hid h; clear h
  have H3 := Lib.hid h3; clear h3
  have HB3 := Lib.hid hb3; clear hb3
  go_enter Try.func60, Try.ntmps60
  go_wp2_with fail
  refine (wbounded_any g bv b at_ false lo hi _ H.out hbl).mono ?_
  rintro e w1 ⟨n, ok, p, rfl, hr, hk, hp, hm⟩
  have hh3 := (hk.block r3 hl3 (by simpa using hr3)).trans H3.out
  have hm := IsB.of hm
  have HB1 := Lib.hid (Raw.keep (F' := [r3]) (Raw.both H.out.hb HB3.out) hk (fun f hf => .inl (by simp at hf ⊢; exact .inl hf)) (fun f hf => .inl (by simp at hf ⊢; exact .inr hf)))
  have hk1 := hk.mono (F' := [g, r3]) (fun f hf => .inl (by simp at hf ⊢; exact .inl hf))
  cases ok
  · have Hf := Lib.hid (And.intro hr (And.intro hk1 (And.intro hh3 hm)))
    clear hr hk hm hh3 hk1
    go_wp2
    go_ret
    exact ⟨false, p, rfl, Hf.out.1, Hf.out.2.1, 0, Hf.out.2.2.1, Hf.out.2.2.2⟩
  · have c3 := box_at hh3 (j := 0) rfl
    have f3 := box_free hh3 0
    have hk2 : Keep [r3] w1 (w1.setCell ⟨r3, 0, none⟩ (.int .i64 n)) := (Keep.refl [r3] w1).setCell (by simp) _
    have hr2 := hr.keep hk2 (by simp; exact fun e => hr3 e.symm) HB1.out
    have hc : (w1.setCell ⟨r3, 0, none⟩ (.int .i64 n)).heap[r3]? = some (.cells #[.int .i64 n] 3 (0, 0)) := box_set hh3
    have Hf := Lib.hid (And.intro hr2 (And.intro (hk1.trans hk2 (fun f hf => .inl (by simp at hf ⊢; exact .inr hf))) (And.intro hc hm)))
    clear hr hk hm hh3 hk1 hk2 hr2 hc
    go_wp2
    go_ret
    exact ⟨true, p, rfl, Hf.out.1, Hf.out.2.1, n, Hf.out.2.2.1, Hf.out.2.2.2⟩
set_option maxHeartbeats 1000000 in
theorem wBounded_any (g : Nat) (bv : Value) (b : List UInt8) (at_ : Nat) (fl : Bool) (lo hi : Int) (w : World) (h : RdAt 93 w g bv b at_ fl) (hbl : b.length ≤ 1000000) :
    Calls Try.prog 44 #[.pointer (some ⟨g, 0, none⟩), .int .i64 lo, .int .i64 hi] w fun e w' => e = .returned (.int .i64 (rB b lo hi (at_, fl)).1) ∧ RdR 93 w g bv b (rB b lo hi (at_, fl)).2 w' := by
  obtain ⟨W, hW⟩ : ∃ W, W = (((w.alloc (.cells #[.pointer (some ⟨g, 0, none⟩)] 79)).alloc (.cells #[.int .i64 lo] 3)).alloc (.cells #[.int .i64 hi] 3)).alloc (.cells #[.int .i64 0] 3) := ⟨_, rfl⟩
  have hb : Below w.heap.size w W := by
    rw [hW]
    exact ((((Below.refl w.heap.size w).alloc (Nat.le_refl _) _).alloc (by simp) _).alloc (by simp; omega) _).alloc (by simp; omega) _
  have hsz : W.heap.size = w.heap.size + 4 := by rw [hW]; simp
  have c0 : W.cell? ⟨w.heap.size, 0, none⟩ = some (.pointer (some ⟨g, 0, none⟩)) := by rw [hW]; go_simp
  have c1 : W.cell? ⟨w.heap.size + 1, 0, none⟩ = some (.int .i64 lo) := by rw [hW]; go_simp
  have c2 : W.cell? ⟨w.heap.size + 2, 0, none⟩ = some (.int .i64 hi) := by rw [hW]; go_simp
  have h3 : W.heap[w.heap.size + 3]? = some (.cells #[.int .i64 0] 3 (0, 0)) := by
    rw [hW]
    have := heap_alloc_new (((w.alloc (.cells #[.pointer (some ⟨g, 0, none⟩)] 79)).alloc (.cells #[.int .i64 lo] 3)).alloc (.cells #[.int .i64 hi] 3)) (.cells #[.int .i64 0] 3)
    simpa using this
  have hlt := h.lt
  have H := Lib.hid (h.below hb)
  have hB1 : Bytes [w.heap.size + 3] W bv b := Raw.keep h.hb (Keep.of_below' (F := []) hb) (fun f hf => by cases hf) (fun f hf => by rw [List.mem_singleton.1 hf]; exact .inr (by omega))
  have Hw := Lib.hid h.hb
  have HB1 := Lib.hid hB1
  have Hb := Lib.hid hb
  have H3 := Lib.hid h3
  have Hsz := Lib.hid hsz
  clear hb hB1 h
  cases fl
  · have hcl := wboundedC_any g w.heap.size (w.heap.size + 1) (w.heap.size + 2) (w.heap.size + 3) bv b at_ lo hi _ H.out hbl c0 c1 c2 h3 (by omega) HB1.out
    have htry := wtry_any g bv b at_ _ _ _ _ H.out (run_enter Try.func60 (by kernel_rfl) rfl _) hcl
    have Htry := Lib.hid htry; clear htry hcl c0 c1 c2 h3 hsz
    go_enter Try.func44, Try.ntmps44
    go_wp2_with fail
    rw [← hW]
    refine Htry.out.mono ?_
    rintro e w1 ⟨⟨v, rfl⟩, ok, p, w2, ⟨hk, n, hn, hm⟩, hfin⟩
    clear hW
    have hk1 : RdR 93 w g bv b (if ok then (p, false) else (at_, true)) w1 ∧ w1.heap[w.heap.size + 3]? = some (.cells #[.int .i64 n] 3 (0, 0)) := by
      have hkw : Keep [g] w w2 := ((Keep.of_below' (F := [g, w.heap.size + 3]) Hb.out).trans hk (fun f hf => .inl hf)).mono (fun f hf => by simp at hf ⊢; omega)
      have hs2 : w.heap.size + 3 < w2.heap.size := by have := hk.size; rw [Hsz.out] at this; omega
      cases ok
      · obtain ⟨h1, h2⟩ := hfin
        have hk2 := hkw.trans h2 (fun f hf => .inl hf)
        exact ⟨⟨h1, hk2⟩, (h2.block _ hs2 (by simp; omega)).trans hn⟩
      · obtain ⟨rfl, h1⟩ := hfin
        exact ⟨⟨h1, hkw⟩, hn⟩
    obtain ⟨hR, hn1⟩ := hk1
    have c1 := box_at hn1 (j := 0) rfl
    have f1 := box_free hn1 0
    have hend : RdR 93 w g bv b (if ok then (p, false) else (at_, true)) (w1.setCell ⟨w.heap.size + 3, 0, none⟩ (.int .i64 n)) := by
      have hks : Keep [w.heap.size + 3] w1 (w1.setCell ⟨w.heap.size + 3, 0, none⟩ (.int .i64 n)) := (Keep.refl [w.heap.size + 3] w1).setCell (by simp) _
      exact ⟨hR.1.keep hks (by simp; omega) (Raw.keep Hw.out hR.2 (fun f hf => .inl hf) (fun f hf => .inr (by simp at hf; omega))), (hR.2.trans hks (fun f hf => .inr (by simp at hf; omega)))⟩
    have hd := hm.done
    have Hend := Lib.hid hend
    have Hd := Lib.hid hd
    have Hn1 := Lib.hid (box_at (box_set (u := .int .i64 n) hn1) (j := 0) rfl)
    clear hk hn hm hfin hR hend hd hn1
    go_wp2
    refine bodyPost_ret (results_cell1 rfl _ rfl Try.underlying3 rfl Hn1.out) rfl ?_
    rw [Hd.out]
    exact ⟨rfl, Hend.out⟩
  · have hks : Keep [w.heap.size + 3] W (W.setCell ⟨w.heap.size + 3, 0, none⟩ (.int .i64 0)) := (Keep.refl [w.heap.size + 3] W).setCell (by simp) _
    have Hend : Hid (RdR 93 w g bv b (at_, true) (W.setCell ⟨w.heap.size + 3, 0, none⟩ (.int .i64 0))) := Lib.hid ⟨H.out.keep hks (by simp; omega) HB1.out, (Keep.of_below' Hb.out).trans hks (fun f hf => .inr (by simp at hf; omega))⟩
    have c3 : W.cell? ⟨w.heap.size + 1 + 1 + 1, 0, none⟩ = some (.int .i64 0) := box_at h3 (j := 0) rfl
    have f3 : W.frozen? ⟨w.heap.size + 1 + 1 + 1, 0, none⟩ = false := box_free h3 0
    have Hn1 := Lib.hid (box_at (box_set (u := .int .i64 0) h3) (j := 0) rfl)
    clear hks
    have Htry := Lib.hid (fun fn => wtry_failed g bv b at_ fn _ H.out)
    clear h3 hsz
    go_enter Try.func44, Try.ntmps44
    go_wp2_with fail
    rw [← hW]
    refine (Htry.out _).mono ?_
    rintro e w1 ⟨⟨v, rfl⟩, rfl⟩
    clear hW
    go_wp2
    refine bodyPost_ret (results_cell1 rfl _ rfl Try.underlying3 rfl Hn1.out) rfl ?_
    exact ⟨rfl, Hend.out⟩
end Go.Proofs.Yteefimjgcabpoaa
