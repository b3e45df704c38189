/- time: the program's Reader.Ints -/
import Derived.Test.YtdelemmoiaiooaaTf
namespace Go.Ti
open Go Go.RowKit Go.Bs Go.Cl Go.Rw Go.Wi
/-- what Ints returns -/
def RetL (T : TypeId) (w : World) (g : Nat) (bv : Value) (b : List UInt8) (r : List Int × Nat × Bool) (e : Ending) (w' : World) : Prop := ∃ v, e = .returned v ∧ w'.ownsRow w.heap.size 3 1 v r.1.length (r.1.flatMap encT) ∧ RdR T w g bv b r.2 w'
end Go.Ti
namespace Go.Proofs.Ytdelemmoiaiooaa
open Go.RowKit Go.Bs Go.Cl Go.Rw Go.Ti Go.Wi
set_option maxHeartbeats 1000000 in
theorem wInts_any (g : Nat) (bv : Value) (b : List UInt8) (at_ : Nat) (fl : Bool) (most : Int) (hmost : most ≤ 1000000) (w : World) (h : RdAt 85 w g bv b at_ fl) (hbl : b.length ≤ 1000000) :
    Calls Try.prog 31 #[.pointer (some ⟨g, 0, none⟩), .int .i64 most] w (RetL 85 w g bv b (rL b most (at_, fl))) := by
  obtain ⟨W, hW⟩ : ∃ W, W = ((w.alloc (.cells #[.pointer (some ⟨g, 0, none⟩)] 70)).alloc (.cells #[.int .i64 most] 3)).alloc (.cells #[.slice none 0 0] 22) := ⟨_, rfl⟩
  have hb : Below w.heap.size w W := by
    rw [hW]
    exact (((Below.refl w.heap.size w).alloc (Nat.le_refl _) _).alloc (by simp) _).alloc (by simp; omega) _
  have hsz : W.heap.size = w.heap.size + 3 := by rw [hW]; simp
  have c0 : W.cell? ⟨w.heap.size, 0, none⟩ = some (.pointer (some ⟨g, 0, none⟩)) := by rw [hW]; go_simp
  have c1 : W.cell? ⟨w.heap.size + 1, 0, none⟩ = some (.int .i64 most) := by rw [hW]; go_simp
  have h3 : W.heap[w.heap.size + 2]? = some (.cells #[.slice none 0 0] 22 (0, 0)) := by
    rw [hW]
    have := heap_alloc_new ((w.alloc (.cells #[.pointer (some ⟨g, 0, none⟩)] 70)).alloc (.cells #[.int .i64 most] 3)) (.cells #[.slice none 0 0] 22)
    simpa using this
  have hlt := h.lt
  have H := Lib.hid (h.below hb)
  have hB1 : Bytes [w.heap.size + 2] W bv b := Raw.keep h.hb (Keep.of_below' (F := []) hb) (fun f hf => by cases hf) (fun f hf => by rw [List.mem_singleton.1 hf]; exact .inr (by omega))
  have Hw := Lib.hid h.hb
  have HB1 := Lib.hid hB1
  have Hb := Lib.hid hb
  have H3 := Lib.hid h3
  have Hsz := Lib.hid hsz
  clear hb hB1 h
  cases fl
  · have hcl := wintsC_any g w.heap.size (w.heap.size + 1) (w.heap.size + 2) bv b at_ most hmost _ H.out hbl c0 c1 (by omega) (by omega) h3 (by omega) HB1.out
    have htry := wtry_any g bv b at_ _ _ _ _ H.out (run_enter Try.func50 (by kernel_rfl) rfl _) hcl
    have Htry := Lib.hid htry; clear htry hcl c0 c1 h3 hsz
    go_enter Try.func31, Try.ntmps31
    go_wp2_with fail
    rw [← hW]
    refine Htry.out.mono ?_
    rintro e w1 ⟨⟨u, rfl⟩, ok, p, w2, ⟨hk, v, x, hn, hrow, hm⟩, hfin⟩
    clear hW
    have hrow0 : w2.ownsRow w.heap.size 3 1 v x.length (x.flatMap encT) := own_base hrow (by rw [Hsz.out]; omega)
    have hk1 : RdR 85 w g bv b (if ok then (p, false) else (at_, true)) w1 ∧ w1.heap[w.heap.size + 2]? = some (.cells #[v] 22 (0, 0)) ∧ w1.ownsRow w.heap.size 3 1 v x.length (x.flatMap encT) := by
      have hkw : Keep [g] w w2 := ((Keep.of_below' (F := [g, w.heap.size + 2]) Hb.out).trans hk (fun f hf => .inl hf)).mono (fun f hf => by simp at hf ⊢; omega)
      have hs2 : w.heap.size + 2 < w2.heap.size := by have := hk.size; rw [Hsz.out] at this; omega
      cases ok
      · obtain ⟨h1, h2⟩ := hfin
        have hk2 := hkw.trans h2 (fun f hf => .inl hf)
        exact ⟨⟨h1, hk2⟩, (h2.block _ hs2 (by simp; omega)).trans hn, own_keep hrow0 h2 (fun r hr hm => by have := (hrow.lt r hr).1; rw [List.mem_singleton.1 hm, Hsz.out] at this; omega)⟩
      · obtain ⟨rfl, h1⟩ := hfin
        exact ⟨⟨h1, hkw⟩, hn, hrow0⟩
    obtain ⟨hR, hn1, hrow1⟩ := hk1
    have hrr : ∀ r, v.ownBlock = some r → w.heap.size + 3 ≤ r := fun r hr => by have := (hrow.lt r hr).1; rw [Hsz.out] at this; exact this
    obtain ⟨va, vc, hve⟩ := own_slice hrow1
    subst hve
    have c1 := box_at hn1 (j := 0) rfl
    have f1 := box_free hn1 0
    have hks : Keep [w.heap.size + 2] w1 (w1.setCell ⟨w.heap.size + 2, 0, none⟩ (.slice va x.length vc)) := (Keep.refl [w.heap.size + 2] w1).setCell (by simp) _
    have hend : RdR 85 w g bv b (if ok then (p, false) else (at_, true)) (w1.setCell ⟨w.heap.size + 2, 0, none⟩ (.slice va x.length vc)) :=
      ⟨hR.1.keep hks (by simp; omega) (Raw.keep Hw.out hR.2 (fun f hf => .inl hf) (fun f hf => .inr (by simp at hf; omega))), (hR.2.trans hks (fun f hf => .inr (by simp at hf; omega)))⟩
    have hrow2 : (w1.setCell ⟨w.heap.size + 2, 0, none⟩ (.slice va x.length vc)).ownsRow w.heap.size 3 1 (.slice va x.length vc) x.length (x.flatMap encT) := own_keep hrow1 hks (fun r hr hm => by have := hrr r hr; rw [List.mem_singleton.1 hm] at this; omega)
    have hd := hm.done
    have Hend := Lib.hid hend
    have Hrow2 := Lib.hid hrow2
    have Hd := Lib.hid hd
    have Hn1 := Lib.hid (box_at (box_set (u := .slice va x.length vc) hn1) (j := 0) rfl)
    clear hk hn hm hfin hR hend hd hn1 hks hrow hrow0 hrow1 hrow2 hrr
    go_wp2
    refine bodyPost_ret (results_cell1 rfl _ rfl Try.underlying22 rfl Hn1.out) rfl ?_
    rw [Hd.out]
    exact ⟨_, rfl, Hrow2.out, Hend.out⟩
  · have hks : Keep [w.heap.size + 2] W (W.setCell ⟨w.heap.size + 2, 0, none⟩ (.slice none 0 0)) := (Keep.refl [w.heap.size + 2] W).setCell (by simp) _
    have Hend : Hid (RdR 85 w g bv b (at_, true) (W.setCell ⟨w.heap.size + 2, 0, none⟩ (.slice none 0 0))) := Lib.hid ⟨H.out.keep hks (by simp; omega) HB1.out, (Keep.of_below' Hb.out).trans hks (fun f hf => .inr (by simp at hf; omega))⟩
    have c3 : W.cell? ⟨w.heap.size + 1 + 1, 0, none⟩ = some (.slice none 0 0) := box_at h3 (j := 0) rfl
    have f3 : W.frozen? ⟨w.heap.size + 1 + 1, 0, none⟩ = false := box_free h3 0
    have Hn1 := Lib.hid (box_at (box_set (u := .slice none 0 0) h3) (j := 0) rfl)
    clear hks
    have Htry := Lib.hid (fun fn => wtry_failed g bv b at_ fn _ H.out)
    clear h3 hsz
    go_enter Try.func31, Try.ntmps31
    go_wp2_with fail
    rw [← hW]
    refine (Htry.out _).mono ?_
    rintro e w1 ⟨⟨v, rfl⟩, rfl⟩
    clear hW
    go_wp2
    refine bodyPost_ret (results_cell1 rfl _ rfl Try.underlying22 rfl Hn1.out) rfl ?_
    exact ⟨_, rfl, World.ownsRow_nil _ _ _ _, Hend.out⟩
end Go.Proofs.Ytdelemmoiaiooaa
