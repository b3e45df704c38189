/- Space: the walk of SpaceMap -/
import Derived.Test.YtlomhelcphhinaaSr
import Derived.Test.YtlomhelcphhinaaSu
namespace Go.Proofs.Ytlomhelcphhinaa
open Go.RowKit Go.Bs Go.Sp Go.Cl

theorem map_len {l : List Ent} {x : Ent} {rl : List Ent} {re : Int} (h : mapE l x = (rl, re)) : rl.length ≤ l.length + 1 := by
  cases hv : validB l
  · unfold mapE at h; simp [hv] at h; obtain ⟨rfl, _⟩ := h; simp
  · cases ho : x.ok
    · unfold mapE at h; simp [hv, ho] at h; obtain ⟨rfl, _⟩ := h; simp
    · unfold mapE at h; simp [hv, ho] at h; obtain ⟨rfl, _⟩ := h; exact ins_len (valid_srt hv)

set_option maxRecDepth 100000 in
set_option maxHeartbeats 3200000 in
theorem spaceMap_any (v : Value) (l : List Ent) (p f : Int) (wb : Bool) (w : World) (hs : SlE w v l)
    (hp1 : -9223372036854775808 ≤ p) (hp2 : p ≤ 9223372036854775807) :
    Calls Try.prog 6 #[v, .agg #[.int .i64 p, .int .i64 f, .bool wb]] w fun e w' => e = .returned (.bool true) ∧ Below w.heap.size w w' := by
  have hal := fun o => (Below.refl w.heap.size w).alloc (Nat.le_refl _) o
  have Hs := Lib.hid hs
  obtain ⟨ad, cap, rfl, hcap, hxx⟩ := hs
  clear hxx
  by_cases hbad : 60 < l.length
  · have g1 : (60 : Int) < l.length := by omega
    go_enter Try.func6, Try.ntmps6
    go_wp2_with fail
    refine (awake_any _).mono ?_
    rintro e w1 ⟨rfl, hb1⟩
    have hbel1 : Below w.heap.size w w1 := (hal _).trans (hb1.mono (by simp))
    go_wp2_with fail
    refine (awake_any _).mono ?_
    rintro e w9 ⟨rfl, hb9⟩
    have hfin := hbel1.trans (hb9.mono hbel1.size)
    go_wp2
    go_ret
    exact ⟨rfl, hfin⟩
  · have hl' : l.length ≤ 1000000 := by omega
    have hl3 : l.length ≤ 1000 := by omega
    have g1 : (l.length : Int) ≤ 60 := by omega
    cases hm : mapE l ⟨p, f, wb⟩ with
    | mk rl re =>
    have hrl := map_len hm
    have HL : Hid (rl.length ≤ 1000000) := Lib.hid (by omega)
    have Hm := Lib.hid hm; clear hm
    clear hrl
    go_enter Try.func6, Try.ntmps6
    go_wp2_with fail
    refine (awake_any _).mono ?_
    rintro e w1 ⟨rfl, hb1⟩
    have hw1 : w.heap.size < w1.heap.size := by have := hb1.size; simp at this; omega
    have hbel1 : Below w.heap.size w w1 := (hal _).trans (hb1.mono (by simp))
    obtain ⟨hc1, hf1⟩ := bcellN (N := w.heap.size + 1) hb1 (by simp)
    have x0 : w1.cell? ⟨w.heap.size, 0, none⟩ = some (.int .i64 p) := by go_simp
    have x1 : w1.cell? ⟨w.heap.size, 1, none⟩ = some (.int .i64 f) := by go_simp
    have x2 : w1.cell? ⟨w.heap.size, 2, none⟩ = some (.bool wb) := by go_simp
    clear hc1 hf1 hb1
    go_wp2
    have hB1 : ∀ b ∈ [w.heap.size], ∃ c e f, w1.heap[b]? = some (.cells c e f) := fun b hb => by
      rw [List.mem_singleton.1 hb]
      exact Txt.cells_of x0
    refine Txt.wp_cut [2, 2] [w.heap.size] [2] [] (by kernel_rfl) (by kernel_rfl) (by kernel_rfl) hB1 ?_
    simp only [Txt.wpCut, List.take_succ_cons, List.take_zero, List.drop_succ_cons, List.drop_zero]
    go_wp2_with (go_at_call 12; refine (to_sl _ l _ hl' (Hs.out.below (hbel1.drew))).mono ?_; rintro e w2 ⟨v2, rfl, hown, hb2⟩)
    have Hown2 := Lib.hid (SlE.of_own hown); clear hown
    have HS1 := Lib.hid (same_below (same_start hB1) hb2 (fun b hb => by rw [List.mem_singleton.1 hb]; simp; omega))
    refine Txt.SegPost.mk HS1.out ?_
    have hb2 := (Below.refl _ w1).drew.trans hb2
    have hw2 : w.heap.size < w2.heap.size := by have := hb2.size; omega
    have x0 : w2.cell? ⟨w.heap.size, 0, none⟩ = some (.int .i64 p) := (below_at (hb2.mono (show w.heap.size + 1 ≤ w1.drew.heap.size by simp; omega)) (w.heap.size) 0 (by omega)).trans x0
    have x1 : w2.cell? ⟨w.heap.size, 1, none⟩ = some (.int .i64 f) := (below_at (hb2.mono (show w.heap.size + 1 ≤ w1.drew.heap.size by simp; omega)) (w.heap.size) 1 (by omega)).trans x1
    have x2 : w2.cell? ⟨w.heap.size, 2, none⟩ = some (.bool wb) := (below_at (hb2.mono (show w.heap.size + 1 ≤ w1.drew.heap.size by simp; omega)) (w.heap.size) 2 (by omega)).trans x2
    have hbel2 := hbel1.trans (hb2.mono (by simp; omega))
    go_wp2_with (go_at_call 20; refine (map_sl v2 l ⟨p, f, wb⟩ _ hl3 Hown2.out (by assumption) (by assumption)).mono ?_; rw [Hm.out]; rintro e w3 ⟨v3, rfl, hown, hb3⟩)
    have Ha3 := Lib.hid (SlE.of_own hown); clear hown
    have hS1 := same_below HS1.out hb3 (fun b hb => by rw [List.mem_singleton.1 hb]; omega)
    refine Txt.SegPost.mk hS1 ?_
    have hw3 : w.heap.size < w3.heap.size := by have := hb3.size; omega
    have x0 : w3.cell? ⟨w.heap.size, 0, none⟩ = some (.int .i64 p) := (below_at (hb3.mono (show w.heap.size + 1 ≤ w2.heap.size by omega)) (w.heap.size) 0 (by omega)).trans x0
    have x1 : w3.cell? ⟨w.heap.size, 1, none⟩ = some (.int .i64 f) := (below_at (hb3.mono (show w.heap.size + 1 ≤ w2.heap.size by omega)) (w.heap.size) 1 (by omega)).trans x1
    have x2 : w3.cell? ⟨w.heap.size, 2, none⟩ = some (.bool wb) := (below_at (hb3.mono (show w.heap.size + 1 ≤ w2.heap.size by omega)) (w.heap.size) 2 (by omega)).trans x2
    have hbel3 := hbel2.trans (hb3.mono (by omega))
    clear hS1 HS1 hB1 hb3 hb2 hbel2 Hown2
    go_wp2
    refine Txt.DrawPost.mk (by rfl) ⟨.head _, trivial⟩ ?_
    go_wp2_with fail
    refine (rmap_sl _ l p f wb _ hl3 (Hs.out.below hbel3) (by assumption) (by assumption)).mono ?_
    rw [Hm.out]
    rintro e w4 ⟨v4, rfl, hown, hb4⟩
    have Hb4 := Lib.hid (SlE.of_own hown); clear hown
    have Ha4 := Lib.hid (Ha3.out.below hb4); clear Ha3
    have hbel4 := hbel3.trans (hb4.mono hbel3.size)
    clear hb4 hbel3
    go_wp2_with fail
    refine (from_sl v3 _ _ HL.out Ha4.out).mono ?_
    rintro e w5 ⟨v5, rfl, hown, hb5⟩
    have Ha5 := Lib.hid (SlE.of_own hown); clear hown
    have Hb5 := Lib.hid (Hb4.out.below hb5); clear Hb4
    have hbel5 := hbel4.trans (hb5.mono hbel4.size)
    clear hb5 hbel4
    go_wp2_with fail
    refine (esame_sl v5 v4 _ _ HL.out Ha5.out Hb5.out).mono ?_
    rintro e w6 ⟨rfl, hb6⟩
    have hbel6 := hbel5.trans (hb6.mono hbel5.size)
    clear hb6 hbel5
    go_wp2_with fail
    refine (to_sl _ l _ hl' (Hs.out.below hbel6)).mono ?_
    rintro e w7 ⟨v7, rfl, hown, hb7⟩
    have Ha7 := Lib.hid (SlE.of_own hown); clear hown
    have hbel7 := hbel6.trans (hb7.mono hbel6.size)
    clear hb7 hbel6
    go_wp2_with fail
    refine (valid_sl Ha7.out hl').mono ?_
    rintro e w8 ⟨rfl, hb8⟩
    have hbel8 := hbel7.trans (hb8.mono hbel7.size)
    clear hb8 hbel7
    go_wp2_with fail
    refine (rvalid_sl (Hs.out.below hbel8) hl').mono ?_
    rintro e w9 ⟨rfl, hb9⟩
    have hbel9 := hbel8.trans (hb9.mono hbel8.size)
    clear hb9 hbel8
    go_wp2
    go_ret
    exact ⟨rfl, hbel9⟩
end Go.Proofs.Ytlomhelcphhinaa
