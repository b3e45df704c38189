/- Detect: Sort, Compact, Delete on rows of one's own -/
import Derived.Test.YthmnhpakgjnngaaGreatDoorDa
import Derived.Test.YthmnhpakgjnngaaGreatDoorShelf
namespace Go.Proofs.YthmnhpakgjnngaaGreatDoor
open Go.RowKit Go.Bs Go.Cl Go.Rw Go.Dt Go.Sort Go.So
theorem sort_own {base n : Nat} {v : Value} {l : List Int} {w : World} (h : w.ownsRow base 3 1 v n (l.map (Value.int .i64))) (hn : n ≤ 1000) (hb : base ≤ w.heap.size) :
    Calls Tryz.prog 89 #[v] w fun e w' => e = .returned (.tuple #[]) ∧ w'.ownsRow base 3 1 v n ((l.mergeSort fun x y => decide (x ≤ y)).map (Value.int .i64)) ∧ Below base w w' := by
  have hl : l.length = n := by have := h.1; simpa using this
  rcases own_cases h with ⟨rfl, rfl, h0⟩ | ⟨g, cap, rfl, h1, h2, h3⟩
  · have : l = [] := by simpa using h0
    subst this
    refine (Tryz.slices_Sort_int_none none 0 w).mono ?_
    rintro e w' ⟨rfl, rfl⟩
    exact ⟨rfl, by simpa using h, Below.refl _ _⟩
  · subst hl
    refine (Tryz.slices_Sort_int g 0 cap l w (holds_own _ h) h2 (by omega)).mono ?_
    rintro e w' ⟨rfl, q, os, rfl⟩
    exact ⟨rfl, own_put _ h _ (by simp) q os, (keep_put _ w g q os _).below hb (fun f hf => by rw [List.mem_singleton.1 hf]; exact h1)⟩
theorem compact_len (l : List Int) : (Lib.compact l).length ≤ l.length := by
  unfold Lib.compact Lib.compactUpTo
  rw [List.length_map]
  exact Nat.le_trans (List.length_filter_le _ _) (by simp)
theorem compact_own {base n : Nat} {v : Value} {l : List Int} {w : World} (h : w.ownsRow base 3 1 v n (l.map (Value.int .i64))) (hn : n ≤ 1000) (hb : base ≤ w.heap.size) :
    Calls Tryz.prog 90 #[v] w fun e w' => ∃ v', e = .returned v' ∧ w'.ownsRow base 3 1 v' (Lib.compact l).length ((Lib.compact l).map (Value.int .i64)) ∧ Below base w w' := by
  have hl : l.length = n := by have := h.1; simpa using this
  rcases own_cases h with ⟨rfl, rfl, h0⟩ | ⟨g, cap, rfl, h1, h2, h3⟩
  · have : l = [] := by simpa using h0
    subst this
    refine (Tryz.slices_Compact_int_empty none 0 w).mono ?_
    rintro e w' ⟨rfl, rfl⟩
    exact ⟨_, rfl, by simpa [Lib.compact, Lib.compactUpTo] using h, Below.refl _ _⟩
  · subst hl
    refine (Tryz.slices_Compact_int g 0 cap l w (holds_own _ h) (by omega) h3).mono ?_
    rintro e w' ⟨rfl, q, rfl⟩
    have hk := keep_put (Value.int .i64) w g q #[] (Lib.compact l ++ List.replicate (l.length - (Lib.compact l).length) 0).toArray
    have ho := own_compact (Value.int .i64) h (Lib.compact l) (l.length - (Lib.compact l).length) 0 (by have := compact_len l; omega) q #[]
    rw [grow_empty] at hk ho
    exact ⟨_, rfl, ho, hk.below hb (fun f hf => by rw [List.mem_singleton.1 hf]; exact h1)⟩
theorem delete_own {base n i : Nat} {v : Value} {l : List Int} {w : World} (h : w.ownsRow base 3 1 v n (l.map (Value.int .i64))) (hn : n ≤ 1000) (hb : base ≤ w.heap.size) (hi : i < l.length) :
    Calls Tryz.prog 92 #[v, .int .i64 i, .int .i64 ((i : Int) + 1)] w fun e w' => ∃ v', e = .returned v' ∧ w'.ownsRow base 3 1 v' (l.eraseIdx i).length ((l.eraseIdx i).map (Value.int .i64)) ∧ Below base w w' := by
  have hl : l.length = n := by have := h.1; simpa using this
  rcases own_cases h with ⟨rfl, rfl, h0⟩ | ⟨g, cap, rfl, h1, h2, h3⟩
  · omega
  · subst hl
    have hm : cap ≤ 9223372036854775807 := by
      rcases h.2 with ⟨h', _⟩ | ⟨g', cap', cur, hv, _, _, _, hm, _⟩
      · cases h'
      · cases hv; simpa [maxLen] using hm
    have hc := Tryz.slices_Delete_int g 0 cap i (i + 1) l w (holds_own _ h) h3 hm (by omega) (by omega)
    rw [show ((i + 1 : Nat) : Int) = (i : Int) + 1 by omega] at hc
    refine hc.mono ?_
    rintro e w' ⟨rfl, q, rfl⟩
    have e1 : l.eraseIdx i = l.take i ++ l.drop (i + 1) := List.eraseIdx_eq_take_drop_succ ..
    have e2 : (l.take i ++ l.drop (i + 1)).length = l.length - (i + 1 - i) := by simp; omega
    have hk := keep_put (Value.int .i64) w g q #[] (l.take i ++ l.drop (i + 1) ++ List.replicate (i + 1 - i) 0).toArray
    have ho := own_compact (Value.int .i64) h (l.take i ++ l.drop (i + 1)) (i + 1 - i) 0 (by rw [e2]; omega) q #[]
    rw [grow_empty] at hk ho
    rw [e1]
    rw [e2] at ho ⊢
    exact ⟨_, rfl, ho, hk.below hb (fun f hf => by rw [List.mem_singleton.1 hf]; exact h1)⟩
end Go.Proofs.YthmnhpakgjnngaaGreatDoor
