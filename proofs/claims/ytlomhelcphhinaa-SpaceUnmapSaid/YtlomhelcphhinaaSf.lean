/- Space: walks: awake -/
import Derived.Test.YtlomhelcphhinaaSd
import Derived.Test.YtlomhelcphhinaaSe
namespace Go.Proofs.Ytlomhelcphhinaa
open Go.RowKit Go.Bs Go.Sp

def awL : List Ent := [⟨0, 5, true⟩, ⟨1, 9, false⟩]
theorem aw1 : pieces awL 126 4 false = ([⟨0, 5, 126, 2⟩, ⟨1, 9, 0, 2⟩], 0, 0) := by kernel_rfl
theorem aw2 : pieces awL 126 4 true = ([], 1, 11) := by kernel_rfl
theorem aw_sl (w : World) : SlE (w.alloc (.cells #[.int .i64 0, .int .i64 5, .bool true, .int .i64 1, .int .i64 9, .bool false] 53)) (.slice (some ⟨w.heap.size, 0, none⟩) 2 2) awL := by
  refine ⟨_, 2, rfl, by simp [awL], fun _ => ⟨w.heap.size, 0, rfl, by simp, fun i hi => ?_⟩⟩
  have : i = 0 ∨ i = 1 := by simp [awL] at hi; omega
  rcases this with rfl | rfl <;> (refine ⟨?_, ?_, ?_⟩ <;> go_simp <;> rfl)

set_option maxRecDepth 100000 in
set_option maxHeartbeats 400000 in
theorem awake_any (w : World) : Calls Try.prog 10 #[] w fun e w' => e = .returned (.bool true) ∧ Below w.heap.size w w' := by
  have hal := fun o => (Below.refl w.heap.size w).alloc (Nat.le_refl _) o
  go_enter Try.func10, Try.ntmps10
  go_wp2_with fail
  refine (pieces_sl _ awL 126 4 false _ (by simp [awL]) (aw_sl w)).mono ?_
  rw [aw1]
  rintro e w1 ⟨v1, rfl, hown1, hb1⟩
  have Hown1 := Lib.hid hown1; clear hown1
  go_wp2_with fail
  refine (pieces_sl _ awL 126 4 true w1 (by simp [awL]) ((aw_sl w).below hb1)).mono ?_
  rw [aw2]
  rintro e w2 ⟨v2, rfl, hown2, hb2⟩
  have hown1' := own_below Hown1.out hb2 (Nat.le_refl _)
  rcases own_cases hown1' with ⟨_, h0, _⟩ | ⟨g, cap, rfl, hg1, hg2, hcap⟩
  · simp at h0
  · have hP := PcsAt.of_own hown1'
    obtain ⟨c0, c1, c2, c3⟩ := hP 1 (by simp)
    simp [pc] at c0 c1 c2 c3
    clear hP hown1'
    go_wp2
    go_ret
    exact ⟨rfl, ((hal _).trans (hb1.mono (by simp))).trans (hb2.mono (by have := hb1.size; simp at this; omega))⟩
end Go.Proofs.Ytlomhelcphhinaa
