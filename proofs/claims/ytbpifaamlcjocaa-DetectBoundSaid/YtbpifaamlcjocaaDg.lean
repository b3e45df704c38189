/- Detect: awake -/
import Derived.Test.YtbpifaamlcjocaaDf
namespace Go.Proofs.Ytbpifaamlcjocaa
open Go.RowKit Go.Bs Go.Cl Go.Rw Go.Dt Go.Sort Go.So
theorem ints_block {W : World} {g : Nat} {l : List Int} (h : W.heap[g]? = some (.cells (l.map (Value.int .i64)).toArray 3 (0, 0))) (hl : l.length ≤ 1000) : Ints [] W (.slice (some ⟨g, 0, none⟩) l.length l.length) l :=
  Raw.of_block h (by simp) (ivs_one l) (by simp) (Nat.le_refl _) (by unfold maxLen; omega)
theorem once57 : once [7, 5] = [5, 7] := srt_ext (once_srt _) (by decide) (fun x => by rw [once_mem]; simp; omega)
theorem less57 : less [5, 7] 5 = [7] := by decide
set_option maxRecDepth 100000 in
set_option maxHeartbeats 1000000 in
theorem awake_any (w : World) : Calls Try.prog 7 #[] w fun e w' => e = .returned (.bool true) ∧ Below w.heap.size w w' := by
  have HI := Lib.hid (ints_block (W := w.alloc (.cells #[.int .i64 7, .int .i64 5] 3)) (g := w.heap.size) (l := [7, 5]) (heap_alloc_new w _) (by decide))
  go_enter Try.func7, Try.ntmps7
  go_wp2_with fail
  refine (ping_ok 0 [] [7, 5] _ _ _ (by decide) (by decide) (Raw.empty _ _ _) HI.out OkB.start (by decide) (by decide)).mono ?_
  rw [once57]
  rintro e w1 ⟨a1, b1, rfl, ha, hb, hb1⟩
  obtain ⟨x1, y1, rfl⟩ := own_slice ha
  obtain ⟨x2, y2, rfl⟩ := own_slice hb
  have HB1 : Hid (Below w.heap.size w w1) := Lib.hid (((Below.refl _ w).alloc (Nat.le_refl _) _).trans (hb1.mono (by simp)))
  have HA := Lib.hid (Ints.of_own ha)
  clear ha hb hb1
  go_wp2_with fail
  refine (pong_ok 1 5 [5, 7] _ _ (by decide) (Raw.alloc HA.out _) ⟨by decide, by decide, by decide, by decide, .inl (by decide)⟩ (by decide)).mono ?_
  rw [less57]
  rintro e w2 ⟨v2, rfl, h2, hb2⟩
  obtain ⟨x3, y3, rfl⟩ := own_slice h2
  have hb12 : Below w1.heap.size w1 w2 := ((Below.refl _ w1).alloc (Nat.le_refl _) _).trans (hb2.mono (by simp))
  have HB2 : Hid (Below w.heap.size w w2) := Lib.hid (HB1.out.trans (hb12.mono HB1.out.size))
  have HA2 := Lib.hid (Ints.of_own h2)
  clear h2 hb2 hb12
  go_wp2_with fail
  refine (ping_ok 1 [7] [] _ _ _ (by decide) (by decide) (Raw.alloc HA2.out _) (Raw.empty _ _ _) ⟨by decide, by decide, by decide, by decide, .inl (by decide)⟩ (by decide) (by decide)).mono ?_
  rw [once_self List.Pairwise.nil]
  rintro e w3 ⟨a3, b3, rfl, h3, h4, hb3⟩
  obtain ⟨x4, y4, rfl⟩ := own_slice h3
  obtain ⟨x5, y5, rfl⟩ := own_slice h4
  have hb23 : Below w2.heap.size w2 w3 := ((Below.refl _ w2).alloc (Nat.le_refl _) _).trans (hb3.mono (by simp))
  have HB3 : Hid (Below w.heap.size w w3) := Lib.hid (HB2.out.trans (hb23.mono HB2.out.size))
  have HA4 := Lib.hid (Ints.of_own h4)
  clear h3 h4 hb3 hb23
  have HI := Lib.hid (ints_block (W := (w3.alloc (.cells #[.int .i64 2, .slice x4 0 y4] 26)).alloc (.cells #[.int .i64 7] 3)) (g := w3.heap.size + 1) (l := [7]) (by have := heap_alloc_new (w3.alloc (.cells #[.int .i64 2, .slice x4 0 y4] 26)) (.cells #[.int .i64 7] 3); simpa using this) (by decide))
  go_wp2_with fail
  refine (same_refl [7] _ _ _ (by decide) ((Raw.alloc (Raw.alloc HA4.out _) _)) HI.out).mono ?_
  rintro e w4 ⟨rfl, hb4⟩
  have HB4 : Hid (Below w.heap.size w w4) := Lib.hid (((HB3.out.alloc HB3.out.size _).alloc (by simp; have := HB3.out.size; omega) _).trans (hb4.mono (by simp; have := HB3.out.size; omega)))
  clear hb4
  go_wp2_with fail
  refine (name2 _).mono ?_
  rintro e w5 ⟨rfl, hb5⟩
  have HB5 := HB4.out.trans (hb5.mono HB4.out.size)
  go_wp2
  go_ret
  exact ⟨rfl, HB5⟩
end Go.Proofs.Ytbpifaamlcjocaa
