/- names: the reference's SameEffects -/
import Derived.Test.YtfgbkfifiioeiaaNv
namespace Go.Proofs.Ytfgbkfifiioeiaa
open Go.RowKit Go.Bs Go.Cl Go.Rw Go.Nm Go.Wi
set_option maxRecDepth 100000 in
theorem same_nil (w : World) : Calls Try.prog 43 #[.slice none 0 0, .slice none 0 0] w fun e w' => e = .returned (.bool true) ∧ w = w' := by
  have k1 := fun w => run_str (F := []) (w := w) (l := []) (Raw.empty _ _ _) 23 5 9 Try.underlying23 Try.underlying5 Try.underlying9
  go_enter Try.func43, Try.ntmps43
  go_wp2
  go_ret
  exact ⟨by simp, rfl⟩
set_option maxRecDepth 100000 in
set_option maxHeartbeats 4000000 in
theorem samemsg_any (ms : Int) (r : Rp) (w : World) : Calls Try.prog 42 #[.agg #[.int .i64 0, .int .i64 ms, .int .i64 r.k, .int .i64 0, .int .i64 r.a0, .int .i64 r.a1, .int .i64 r.a2, .int .i64 r.a3, .slice none 0 0], .agg #[.int .i64 0, .int .i64 ms, .int .i64 r.k, .int .i64 0, .int .i64 r.a0, .int .i64 r.a1, .int .i64 r.a2, .int .i64 r.a3, .slice none 0 0]] w fun e w' => e = .returned (.bool true) ∧ Below w.heap.size w w' := by
  have hg38 := eg38
  have hb : Below w.heap.size w ((w.alloc (.cells #[.int .i64 0, .int .i64 ms, .int .i64 r.k, .int .i64 0, .int .i64 r.a0, .int .i64 r.a1, .int .i64 r.a2, .int .i64 r.a3, .slice none 0 0] 40)).alloc (.cells #[.int .i64 0, .int .i64 ms, .int .i64 r.k, .int .i64 0, .int .i64 r.a0, .int .i64 r.a1, .int .i64 r.a2, .int .i64 r.a3, .slice none 0 0] 40)) := ((Below.refl _ w).alloc (Nat.le_refl _) _).alloc (by simp) _
  obtain ⟨M, hM⟩ : ∃ M, M = w.heap.size := ⟨_, rfl⟩
  obtain ⟨w1, hw1⟩ : ∃ W, W = w.alloc (.cells #[.int .i64 0, .int .i64 ms, .int .i64 r.k, .int .i64 0, .int .i64 r.a0, .int .i64 r.a1, .int .i64 r.a2, .int .i64 r.a3, .slice none 0 0] 40) := ⟨_, rfl⟩
  obtain ⟨w2, hw2⟩ : ∃ W, W = w1.alloc (.cells #[.int .i64 0, .int .i64 ms, .int .i64 r.k, .int .i64 0, .int .i64 r.a0, .int .i64 r.a1, .int .i64 r.a2, .int .i64 r.a3, .slice none 0 0] 40) := ⟨_, rfl⟩
  obtain ⟨M2, hM2⟩ : ∃ q, q = w1.heap.size := ⟨_, rfl⟩
  have h1 : M2 = M + 1 := by rw [hM2, hw1, hM]; simp
  rw [← hw1, ← hw2] at hb
  have HA : Hid (w2.heap[M]? = some (.cells #[.int .i64 0, .int .i64 ms, .int .i64 r.k, .int .i64 0, .int .i64 r.a0, .int .i64 r.a1, .int .i64 r.a2, .int .i64 r.a3, .slice none 0 0] 40 (0, 0))) := Lib.hid (by rw [hw2]; exact (Below.heap_alloc w1 _ _ (by omega)).trans (by rw [hw1, hM]; exact heap_alloc_new w _))
  have HB : Hid (w2.heap[M2]? = some (.cells #[.int .i64 0, .int .i64 ms, .int .i64 r.k, .int .i64 0, .int .i64 r.a0, .int .i64 r.a1, .int .i64 r.a2, .int .i64 r.a3, .slice none 0 0] 40 (0, 0))) := Lib.hid (by rw [hw2, hM2]; exact heap_alloc_new w1 _)
  have HW1 := Lib.hid hw1; have HW2 := Lib.hid hw2; have HM := Lib.hid hM; have HM2 := Lib.hid hM2; have H1 := Lib.hid h1
  clear hw1 hw2 hM hM2 h1
  go_enter Try.func42, Try.ntmps42
  go_upto_region 1 with (fail)
  rw [← HW1.out, ← HW2.out]
  (try rw [← HM.out]); (try rw [← HM2.out]); (try rw [← H1.out])
  clear HW1 HW2 HM HM2 H1
  have a_0 : w2.cell? ⟨M, 0, none⟩ = some (.int .i64 0) := box_at HA.out rfl
  have a_1 : w2.cell? ⟨M, 1, none⟩ = some (.int .i64 ms) := box_at HA.out rfl
  have a_2 : w2.cell? ⟨M, 2, none⟩ = some (.int .i64 r.k) := box_at HA.out rfl
  have a_3 : w2.cell? ⟨M, 3, none⟩ = some (.int .i64 0) := box_at HA.out rfl
  have a_4 : w2.cell? ⟨M, 4, none⟩ = some (.int .i64 r.a0) := box_at HA.out rfl
  have a_5 : w2.cell? ⟨M, 5, none⟩ = some (.int .i64 r.a1) := box_at HA.out rfl
  have a_6 : w2.cell? ⟨M, 6, none⟩ = some (.int .i64 r.a2) := box_at HA.out rfl
  have a_7 : w2.cell? ⟨M, 7, none⟩ = some (.int .i64 r.a3) := box_at HA.out rfl
  have a_8 : w2.cell? ⟨M, 8, none⟩ = some (.slice none 0 0) := box_at HA.out rfl
  have b_0 : w2.cell? ⟨M2, 0, none⟩ = some (.int .i64 0) := box_at HB.out rfl
  have b_1 : w2.cell? ⟨M2, 1, none⟩ = some (.int .i64 ms) := box_at HB.out rfl
  have b_2 : w2.cell? ⟨M2, 2, none⟩ = some (.int .i64 r.k) := box_at HB.out rfl
  have b_3 : w2.cell? ⟨M2, 3, none⟩ = some (.int .i64 0) := box_at HB.out rfl
  have b_4 : w2.cell? ⟨M2, 4, none⟩ = some (.int .i64 r.a0) := box_at HB.out rfl
  have b_5 : w2.cell? ⟨M2, 5, none⟩ = some (.int .i64 r.a1) := box_at HB.out rfl
  have b_6 : w2.cell? ⟨M2, 6, none⟩ = some (.int .i64 r.a2) := box_at HB.out rfl
  have b_7 : w2.cell? ⟨M2, 7, none⟩ = some (.int .i64 r.a3) := box_at HB.out rfl
  have b_8 : w2.cell? ⟨M2, 8, none⟩ = some (.slice none 0 0) := box_at HB.out rfl
  go_wp2_with fail
  refine (same_nil _).mono ?_
  rintro e w' ⟨rfl, rfl⟩
  go_wp2
  go_ret
  exact ⟨by simp, hb⟩
set_option maxRecDepth 100000 in
set_option maxHeartbeats 4000000 in
theorem sameeff_nil (w : World) : Calls Try.prog 20 #[.slice none 0 0, .slice none 0 0] w fun e w' => e = .returned (.bool true) ∧ Below w.heap.size w w' := by
  go_enter Try.func20, Try.ntmps20
  go_wp2
  go_loopw [5] (fun i wr => i = .int .i64 0 ∧ Below w.heap.size w wr) (fun _ _ => 0)
  case atStart => exact ⟨rfl, Below.refl _ _⟩
  case round =>
    obtain ⟨rfl, hbel⟩ := hrel
    go_wp2
    go_ret
    exact ⟨rfl, hbel⟩
set_option maxRecDepth 100000 in
set_option maxHeartbeats 4000000 in
theorem sameeff_any (E1 E2 : Nat) (ms : Int) (r : Rp) (w : World) (h1 : w.heap[E1]? = some (.cells (effC ms r) 78 (0, 0))) (h2 : w.heap[E2]? = some (.cells (effC ms r) 78 (0, 0))) :
    Calls Try.prog 20 #[.slice (some ⟨E1, 0, none⟩) 1 1, .slice (some ⟨E2, 0, none⟩) 1 1] w fun e w' => e = .returned (.bool true) ∧ Below w.heap.size w w' := by
  have H1 : Hid (w.heap[E1]? = some (.cells #[.int .i64 1, .int .i64 0, .int .i64 0, .int .i64 0, .int .i64 0, .int .i64 0, .int .i64 ms, .int .i64 r.k, .int .i64 0, .int .i64 r.a0, .int .i64 r.a1, .int .i64 r.a2, .int .i64 r.a3, .slice none 0 0, .slice none 0 0] 78 (0, 0))) := Lib.hid h1
  have H2 : Hid (w.heap[E2]? = some (.cells #[.int .i64 1, .int .i64 0, .int .i64 0, .int .i64 0, .int .i64 0, .int .i64 0, .int .i64 ms, .int .i64 r.k, .int .i64 0, .int .i64 r.a0, .int .i64 r.a1, .int .i64 r.a2, .int .i64 r.a3, .slice none 0 0, .slice none 0 0] 78 (0, 0))) := Lib.hid h2
  have hg38 := eg38
  clear h1 h2
  go_enter Try.func20, Try.ntmps20
  go_wp2
  go_loopw [5] (fun i wr => ∃ k : Nat, k ≤ 1 ∧ i = .int .i64 k ∧ Below w.heap.size w wr) (fun i _ => 1 - (intOf i).toNat)
  case atStart => exact ⟨0, by omega, rfl, Below.refl _ _⟩
  case round =>
    obtain ⟨k, hk, rfl, hbel⟩ := hrel
    have hsz := hbel.size
    by_cases h0 : k = 0
    · subst h0
      go_upto_region 6 with (fail)
      refine Txt.Ty.wp_tree [] [] [] [4, 9, 16, 21, 29, 34, 43, 48] [0, 1, 2, 3, 4, 5, 6, 7, 8, 9, 10, 11, 12, 13, 14, 15, 16, 17, 18, 19, 20, 21, 22, 23, 24, 25, 26, 27, 28, 29, 30, 31, 32, 33, 34] (.alt [35, 36, 37, 38, 39, 40, 41, 42, 43, 44, 45, 46, 47, 48] (.alt [49, 50, 51] (.done) (.no)) (.no)) (by kernel_rfl) (by kernel_rfl) (by kernel_rfl) (by kernel_rfl) (fun b hb => by cases hb) ?_
      obtain ⟨y0, hy0⟩ : ∃ y, y = wr.drew := ⟨_, rfl⟩
      rw [← hy0]
      have hd : Below wr.heap.size wr y0 := by rw [hy0]; exact (Below.refl _ _).drew
      have bel0 := hbel.trans (hd.mono hsz)
      have HA := Lib.hid ((bel0.block E1 (Array.getElem?_eq_some_iff.1 H1.out).1).trans H1.out)
      have HB := Lib.hid ((bel0.block E2 (Array.getElem?_eq_some_iff.1 H2.out).1).trans H2.out)
      clear hd hy0 hbel hsz
      have a_0 : y0.cell? ⟨E1, 0, none⟩ = some (.int .i64 1) := box_at HA.out rfl
      have a_1 : y0.cell? ⟨E1, 1, none⟩ = some (.int .i64 0) := box_at HA.out rfl
      have a_2 : y0.cell? ⟨E1, 2, none⟩ = some (.int .i64 0) := box_at HA.out rfl
      have a_3 : y0.cell? ⟨E1, 3, none⟩ = some (.int .i64 0) := box_at HA.out rfl
      have a_4 : y0.cell? ⟨E1, 4, none⟩ = some (.int .i64 0) := box_at HA.out rfl
      have a_5 : y0.cell? ⟨E1, 5, none⟩ = some (.int .i64 0) := box_at HA.out rfl
      have a_6 : y0.cell? ⟨E1, 6, none⟩ = some (.int .i64 ms) := box_at HA.out rfl
      have a_7 : y0.cell? ⟨E1, 7, none⟩ = some (.int .i64 r.k) := box_at HA.out rfl
      have a_8 : y0.cell? ⟨E1, 8, none⟩ = some (.int .i64 0) := box_at HA.out rfl
      have a_9 : y0.cell? ⟨E1, 9, none⟩ = some (.int .i64 r.a0) := box_at HA.out rfl
      have a_10 : y0.cell? ⟨E1, 10, none⟩ = some (.int .i64 r.a1) := box_at HA.out rfl
      have a_11 : y0.cell? ⟨E1, 11, none⟩ = some (.int .i64 r.a2) := box_at HA.out rfl
      have a_12 : y0.cell? ⟨E1, 12, none⟩ = some (.int .i64 r.a3) := box_at HA.out rfl
      have a_13 : y0.cell? ⟨E1, 13, none⟩ = some (.slice none 0 0) := box_at HA.out rfl
      have a_14 : y0.cell? ⟨E1, 14, none⟩ = some (.slice none 0 0) := box_at HA.out rfl
      have b_0 : y0.cell? ⟨E2, 0, none⟩ = some (.int .i64 1) := box_at HB.out rfl
      have b_1 : y0.cell? ⟨E2, 1, none⟩ = some (.int .i64 0) := box_at HB.out rfl
      have b_2 : y0.cell? ⟨E2, 2, none⟩ = some (.int .i64 0) := box_at HB.out rfl
      have b_3 : y0.cell? ⟨E2, 3, none⟩ = some (.int .i64 0) := box_at HB.out rfl
      have b_4 : y0.cell? ⟨E2, 4, none⟩ = some (.int .i64 0) := box_at HB.out rfl
      have b_5 : y0.cell? ⟨E2, 5, none⟩ = some (.int .i64 0) := box_at HB.out rfl
      have b_6 : y0.cell? ⟨E2, 6, none⟩ = some (.int .i64 ms) := box_at HB.out rfl
      have b_7 : y0.cell? ⟨E2, 7, none⟩ = some (.int .i64 r.k) := box_at HB.out rfl
      have b_8 : y0.cell? ⟨E2, 8, none⟩ = some (.int .i64 0) := box_at HB.out rfl
      have b_9 : y0.cell? ⟨E2, 9, none⟩ = some (.int .i64 r.a0) := box_at HB.out rfl
      have b_10 : y0.cell? ⟨E2, 10, none⟩ = some (.int .i64 r.a1) := box_at HB.out rfl
      have b_11 : y0.cell? ⟨E2, 11, none⟩ = some (.int .i64 r.a2) := box_at HB.out rfl
      have b_12 : y0.cell? ⟨E2, 12, none⟩ = some (.int .i64 r.a3) := box_at HB.out rfl
      have b_13 : y0.cell? ⟨E2, 13, none⟩ = some (.slice none 0 0) := box_at HB.out rfl
      have b_14 : y0.cell? ⟨E2, 14, none⟩ = some (.slice none 0 0) := box_at HB.out rfl
      (try simp only [Txt.pick, List.getElem?_cons_succ, List.getElem?_cons_zero])
      go_wp2
      refine Txt.RunPost.mk ?_
      refine Txt.Ty.wpTr_alt ?_ Txt.Ty.wpTr_no
      (try simp only [Txt.pick, List.getElem?_cons_succ, List.getElem?_cons_zero])
      go_wp2_with fail
      refine (samemsg_any ms r _).mono ?_
      rintro e y1 ⟨rfl, hb1⟩
      have bel1 := bel0.trans (hb1.mono bel0.size)
      have HA1 := Lib.hid ((hb1.block E1 (Array.getElem?_eq_some_iff.1 HA.out).1).trans HA.out)
      have HB1 := Lib.hid ((hb1.block E2 (Array.getElem?_eq_some_iff.1 HB.out).1).trans HB.out)
      clear hb1 a_0 a_1 a_2 a_3 a_4 a_5 a_6 a_7 a_8 a_9 a_10 a_11 a_12 a_13 a_14 b_0 b_1 b_2 b_3 b_4 b_5 b_6 b_7 b_8 b_9 b_10 b_11 b_12 b_13 b_14
      have a_0 : y1.cell? ⟨E1, 0, none⟩ = some (.int .i64 1) := box_at HA1.out rfl
      have a_1 : y1.cell? ⟨E1, 1, none⟩ = some (.int .i64 0) := box_at HA1.out rfl
      have a_2 : y1.cell? ⟨E1, 2, none⟩ = some (.int .i64 0) := box_at HA1.out rfl
      have a_3 : y1.cell? ⟨E1, 3, none⟩ = some (.int .i64 0) := box_at HA1.out rfl
      have a_4 : y1.cell? ⟨E1, 4, none⟩ = some (.int .i64 0) := box_at HA1.out rfl
      have a_5 : y1.cell? ⟨E1, 5, none⟩ = some (.int .i64 0) := box_at HA1.out rfl
      have a_6 : y1.cell? ⟨E1, 6, none⟩ = some (.int .i64 ms) := box_at HA1.out rfl
      have a_7 : y1.cell? ⟨E1, 7, none⟩ = some (.int .i64 r.k) := box_at HA1.out rfl
      have a_8 : y1.cell? ⟨E1, 8, none⟩ = some (.int .i64 0) := box_at HA1.out rfl
      have a_9 : y1.cell? ⟨E1, 9, none⟩ = some (.int .i64 r.a0) := box_at HA1.out rfl
      have a_10 : y1.cell? ⟨E1, 10, none⟩ = some (.int .i64 r.a1) := box_at HA1.out rfl
      have a_11 : y1.cell? ⟨E1, 11, none⟩ = some (.int .i64 r.a2) := box_at HA1.out rfl
      have a_12 : y1.cell? ⟨E1, 12, none⟩ = some (.int .i64 r.a3) := box_at HA1.out rfl
      have a_13 : y1.cell? ⟨E1, 13, none⟩ = some (.slice none 0 0) := box_at HA1.out rfl
      have a_14 : y1.cell? ⟨E1, 14, none⟩ = some (.slice none 0 0) := box_at HA1.out rfl
      have b_0 : y1.cell? ⟨E2, 0, none⟩ = some (.int .i64 1) := box_at HB1.out rfl
      have b_1 : y1.cell? ⟨E2, 1, none⟩ = some (.int .i64 0) := box_at HB1.out rfl
      have b_2 : y1.cell? ⟨E2, 2, none⟩ = some (.int .i64 0) := box_at HB1.out rfl
      have b_3 : y1.cell? ⟨E2, 3, none⟩ = some (.int .i64 0) := box_at HB1.out rfl
      have b_4 : y1.cell? ⟨E2, 4, none⟩ = some (.int .i64 0) := box_at HB1.out rfl
      have b_5 : y1.cell? ⟨E2, 5, none⟩ = some (.int .i64 0) := box_at HB1.out rfl
      have b_6 : y1.cell? ⟨E2, 6, none⟩ = some (.int .i64 ms) := box_at HB1.out rfl
      have b_7 : y1.cell? ⟨E2, 7, none⟩ = some (.int .i64 r.k) := box_at HB1.out rfl
      have b_8 : y1.cell? ⟨E2, 8, none⟩ = some (.int .i64 0) := box_at HB1.out rfl
      have b_9 : y1.cell? ⟨E2, 9, none⟩ = some (.int .i64 r.a0) := box_at HB1.out rfl
      have b_10 : y1.cell? ⟨E2, 10, none⟩ = some (.int .i64 r.a1) := box_at HB1.out rfl
      have b_11 : y1.cell? ⟨E2, 11, none⟩ = some (.int .i64 r.a2) := box_at HB1.out rfl
      have b_12 : y1.cell? ⟨E2, 12, none⟩ = some (.int .i64 r.a3) := box_at HB1.out rfl
      have b_13 : y1.cell? ⟨E2, 13, none⟩ = some (.slice none 0 0) := box_at HB1.out rfl
      have b_14 : y1.cell? ⟨E2, 14, none⟩ = some (.slice none 0 0) := box_at HB1.out rfl
      go_wp2
      refine Txt.SegPost.mk Txt.Ty.Shown.none ?_
      (try simp only [Txt.pick, List.getElem?_cons_succ, List.getElem?_cons_zero])
      go_wp2
      refine Txt.RunPost.mk ?_
      refine Txt.Ty.wpTr_alt ?_ Txt.Ty.wpTr_no
      (try simp only [Txt.pick, List.getElem?_cons_succ, List.getElem?_cons_zero])
      go_wp2_with fail
      refine (same_nil _).mono ?_
      rintro e w' ⟨rfl, rfl⟩
      go_wp2
      refine Txt.SegPost.mk Txt.Ty.Shown.none ?_
      (try simp only [Txt.pick, List.getElem?_cons_succ, List.getElem?_cons_zero])
      go_wp2
      refine Txt.RunPost.mk ?_
      refine Txt.Ty.wpTr_done (by rfl) trivial ?_
      go_wp2
      go_roundw
      case rel => exact ⟨1, by omega, by go_num, bel1⟩
      case measure => simp [intOf]
    · obtain rfl : k = 1 := by omega
      go_wp2
      go_ret
      exact ⟨rfl, hbel⟩
end Go.Proofs.Ytfgbkfifiioeiaa
