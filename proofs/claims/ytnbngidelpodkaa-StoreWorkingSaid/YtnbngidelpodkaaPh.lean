/- Store: the laws Commit and Abort -/
import Derived.Test.YtnbngidelpodkaaPg
namespace Go.Proofs.Ytnbngidelpodkaa
open Go.RowKit Go.Bs Go.Cl Go.Rw Go.Un Go.Im
set_option maxRecDepth 100000 in
set_option maxHeartbeats 8000000 in
theorem stcommit_law (av bv : Value) (a b : List UInt8) (w : World) (hA : Bytes [] w av a) (hB : Bytes [] w bv b) : Calls Try.prog 4 #[av, bv] w fun e w' => e = .returned (.bool true) ∧ Below w.heap.size w w' := by
  obtain ⟨aa, ac, rfl⟩ := Raw.slice hA
  obtain ⟨ba, bc, rfl⟩ := Raw.slice hB
  have HA0 := Lib.hid hA; have HB0 := Lib.hid hB
  clear hA hB
  by_cases hsz : ¬ (a.length ≤ 700 ∧ b.length ≤ 700)
  · by_cases h1 : a.length ≤ 700
    · have h2 : (700 : Int) < b.length := by omega
      have h1' : ¬ (700 : Int) < a.length := by omega
      clear hsz h1
      go_enter Try.func4, Try.ntmps4
      go_wp2_with fail
      refine (awake_any _).mono ?_
      rintro e w1 ⟨rfl, hb1⟩
      go_wp2
      go_ret
      exact ⟨rfl, hb1⟩
    · have h1' : (700 : Int) < a.length := by omega
      clear hsz h1
      go_enter Try.func4, Try.ntmps4
      go_wp2_with fail
      refine (awake_any _).mono ?_
      rintro e w1 ⟨rfl, hb1⟩
      go_wp2
      go_ret
      exact ⟨rfl, hb1⟩
  obtain ⟨hal, hbl⟩ := Classical.not_not.1 hsz
  clear hsz
  have hai : ¬ (700 : Int) < a.length := by omega
  have hbi : ¬ (700 : Int) < b.length := by omega
  have hai' : (a.length : Int) ≤ 700 := by omega
  have hbi' : (b.length : Int) ≤ 700 := by omega
  go_enter Try.func4, Try.ntmps4
  go_wp2_with fail
  refine (awake_any _).mono ?_
  rintro e w1 ⟨rfl, hb1⟩
  have HA := Lib.hid (Raw.below HA0.out hb1); have HB := Lib.hid (Raw.below HB0.out hb1)
  obtain ⟨bla, hbla1, hbla2⟩ := Raw.blocks HA.out (by omega)
  have Hbla := Lib.hid (fun b hb => (hbla2 b hb).2); have Hina := Lib.hid hbla1
  obtain ⟨blb, hblb1, hblb2⟩ := Raw.blocks HB.out (by omega)
  have Hblb := Lib.hid (fun b hb => (hblb2 b hb).2); have Hinb := Lib.hid hblb1
  have HB1 := Lib.hid hb1
  clear hbla1 hbla2 hblb1 hblb2 hb1
  go_wp2_with fail
  refine (liv_new (w0 := w1) _ a _ (by omega) (Below.refl _ _) HA.out).mono ?_
  rintro e w2 ⟨g, rfl, hL⟩
  have HL2 := Lib.hid hL; clear hL
  go_wp2_with fail
  refine (liv_begin _ b HL2.out (by omega) HB.out).mono ?_
  have q1 : psBegin ⟨a, 0, false, [], 0⟩ b = (⟨a, 0, true, b, 0⟩, tot a b, 0) := rfl
  rw [q1]
  clear q1
  obtain ⟨T, hT⟩ : ∃ T, T = tot a b := ⟨_, rfl⟩
  have hTc : T ≤ cnt b.length + 1 := by rw [hT]; exact tot_le a b
  have HTt := Lib.hid hT
  have hT7 : T ≤ 700 := by unfold cnt at hTc; omega
  rw [← hT]
  rintro e w3 ⟨rfl, hL⟩
  have HL3 := Lib.hid hL; clear hL HL2
  have k1 := run_str (HL3.out.arg HA.out) 22 5 9 Try.underlying22 Try.underlying5 Try.underlying9
  have k2 := run_str (HL3.out.arg HB.out) 22 5 9 Try.underlying22 Try.underlying5 Try.underlying9
  obtain ⟨r, hr⟩ : ∃ r, r = decide (a = b) := ⟨_, rfl⟩
  have hT0 : ((T : Int) == 0) = r := by
    rw [hr, hT]
    by_cases h : a = b
    · have := tot_zero.2 h; rw [this]; simp [h]
    · have : tot a b ≠ 0 := fun e => h (tot_zero.1 e)
      simp [h]; omega
  have hsr : ((strOf a).toList == (strOf b).toList) = r := by rw [strOf_eq, hr]
  have hTi : ¬ (T : Int) < 0 := by omega
  have hcb : cnt b.length ≤ 700 := by unfold cnt; omega
  have hTi2 : ¬ ((cnt b.length : Int) + 1 < T) := by omega
  have hTi3 : (T : Int) ≤ 700 := by omega
  have HCnt := Lib.hid (fun w => count_any b.length w (by omega))
  clear hT hr
  go_wp2_with fail
  refine (HCnt.out _).mono ?_
  rintro e w' ⟨rfl, rfl⟩
  go_wp2
  clear k1 k2 hT0 hsr hTi2
  go_loopw [9] (fun i wr => ∃ k j : Nat, k + j = T ∧ i = .int .i64 ((j : Int) - 1) ∧ Liv w1 g ⟨a, 0, true, b, k⟩ wr) (fun i _ => ((intOf i) + 1).toNat)
  case atStart => exact ⟨0, T, by omega, rfl, HL3.out⟩
  case round =>
    obtain ⟨k, j, hkj, rfl, hL⟩ := hrel
    have HR := Lib.hid hL
    have HRd := Lib.hid hL.drew
    clear hL HL3
    rcases Nat.eq_zero_or_pos j with rfl | hj
    · have hkT : k = tot a b := by rw [← HTt.out]; omega
      have hwk : (⟨a, 0, true, b, k⟩ : Ps).work = b := by rw [hkT]; exact wk_all a b
      have e2 : psCommit ⟨a, 0, true, b, k⟩ = (⟨b, 1, false, [], 0⟩, 0) := by rw [hkT]; simp [psCommit, committed, Ps.steps]
      have m1 := liv_work HRd.out
      rw [hwk] at m1
      have hq0 : ((strOf b).toList == (strOf b).toList) = true := by simp
      have HM1 := Lib.hid m1
      have kb := run_str (HRd.out.arg HB.out) 22 5 9 Try.underlying22 Try.underlying5 Try.underlying9
      have e0 : (((0 : Nat) : Int) - 1) = -1 := by omega
      rw [e0]
      clear hkj hkT hwk e0 m1
      go_upto_region 17 with (fail)
      have hBl := (cells_base Hblb.out HR.out.1)
      refine Txt.Ty.wp_tree blb [4, 16] [] [2, 4, 14, 16] [0, 3, 4] (.alt [1, 2, 5, 6, 7] (.alt [8, 9, 10, 11, 12, 15, 16] (.alt [13, 14, 17, 18, 19, 20] (.alt [21, 22, 23, 24, 25, 27] (.alt [26] (.alt [28, 29, 30, 31, 32] (.alt [33, 34, 35, 36] (.done) (.no)) (.no)) (.no)) (.no)) (.no)) (.no)) (.no)) (by kernel_rfl) (by kernel_rfl) (by kernel_rfl) (by kernel_rfl) hBl ?_
      clear hBl
      (try simp only [Txt.pick, List.getElem?_cons_succ, List.getElem?_cons_zero])
      go_wp2
      refine Txt.RunPost.mk ?_
      refine Txt.Ty.wpTr_alt ?_ Txt.Ty.wpTr_no
      (try simp only [Txt.pick, List.getElem?_cons_succ, List.getElem?_cons_zero])
      go_wp2_with fail
      refine HM1.out.mono ?_
      rintro e w10 ⟨a10, c10, rfl, ho10, hL⟩
      have HL10 := Lib.hid hL
      have k1 := run_str (Bytes.row (F := []) ho10 rfl (fun f hf => by cases hf)) 22 5 9 Try.underlying22 Try.underlying5 Try.underlying9
      clear hL ho10
      go_wp2
      refine Txt.SegPost.mk (Txt.Ty.Shown.same (same_base Hblb.out HRd.out.1 HL10.out.1)) ?_
      (try simp only [Txt.pick, List.getElem?_cons_succ, List.getElem?_cons_zero])
      go_wp2
      refine Txt.RunPost.mk ?_
      refine Txt.Ty.wpTr_alt ?_ Txt.Ty.wpTr_no
      (try simp only [Txt.pick, List.getElem?_cons_succ, List.getElem?_cons_zero])
      go_wp2_with fail
      refine (liv_commit HL10.out (by show (0 : Nat) < 1000000; omega)).mono ?_
      rw [e2]
      rintro e w11 ⟨rfl, hL⟩
      have HL11 := Lib.hid hL
      clear hL
      have kc := run_str (HL11.out.arg HB.out) 22 5 9 Try.underlying22 Try.underlying5 Try.underlying9
      go_wp2
      refine Txt.SegPost.mk (Txt.Ty.Shown.same (same_base Hblb.out HRd.out.1 HL11.out.1)) ?_
      (try simp only [Txt.pick, List.getElem?_cons_succ, List.getElem?_cons_zero])
      go_wp2
      refine Txt.RunPost.mk ?_
      refine Txt.Ty.wpTr_alt ?_ Txt.Ty.wpTr_no
      (try simp only [Txt.pick, List.getElem?_cons_succ, List.getElem?_cons_zero])
      go_wp2_with fail
      refine (liv_img HL11.out).mono ?_
      rintro e w12 ⟨a12, c12, rfl, ho12, hL⟩
      have HL12 := Lib.hid hL
      have k3 := run_str (Bytes.row (F := []) ho12 rfl (fun f hf => by cases hf)) 22 5 9 Try.underlying22 Try.underlying5 Try.underlying9
      clear hL ho12
      go_wp2
      refine Txt.SegPost.mk (Txt.Ty.Shown.same (same_base Hblb.out HRd.out.1 HL12.out.1)) ?_
      (try simp only [Txt.pick, List.getElem?_cons_succ, List.getElem?_cons_zero])
      go_wp2
      refine Txt.RunPost.mk ?_
      refine Txt.Ty.wpTr_alt ?_ Txt.Ty.wpTr_no
      (try simp only [Txt.pick, List.getElem?_cons_succ, List.getElem?_cons_zero])
      go_wp2_with fail
      refine (liv_ver HL12.out).mono ?_
      rintro e w' ⟨rfl, rfl⟩
      go_wp2
      refine Txt.SegPost.mk (Txt.Ty.Shown.same (same_base Hblb.out HRd.out.1 HL12.out.1)) ?_
      (try simp only [Txt.pick, List.getElem?_cons_succ, List.getElem?_cons_zero])
      go_wp2
      refine Txt.RunPost.mk ?_
      refine Txt.Ty.wpTr_alt ?_ Txt.Ty.wpTr_no
      (try simp only [Txt.pick, List.getElem?_cons_succ, List.getElem?_cons_zero])
      go_wp2_with fail
      refine (liv_sum HL12.out).mono ?_
      rintro e w' ⟨rfl, rfl⟩
      go_wp2
      refine Txt.SegPost.mk (Txt.Ty.Shown.same (same_base Hblb.out HRd.out.1 HL12.out.1)) ?_
      (try simp only [Txt.pick, List.getElem?_cons_succ, List.getElem?_cons_zero])
      go_wp2
      refine Txt.RunPost.mk ?_
      refine Txt.Ty.wpTr_alt ?_ Txt.Ty.wpTr_no
      (try simp only [Txt.pick, List.getElem?_cons_succ, List.getElem?_cons_zero])
      go_wp2_with fail
      refine (of_any (F := []) _ b _ (by omega) (HL12.out.arg HB.out)).mono ?_
      rintro e w13 ⟨rfl, hb13⟩
      have HL13 := Lib.hid (HL12.out.below hb13)
      clear hb13
      go_wp2
      refine Txt.SegPost.mk (Txt.Ty.Shown.same (same_base Hblb.out HRd.out.1 HL13.out.1)) ?_
      (try simp only [Txt.pick, List.getElem?_cons_succ, List.getElem?_cons_zero])
      go_wp2
      refine Txt.RunPost.mk ?_
      refine Txt.Ty.wpTr_alt ?_ Txt.Ty.wpTr_no
      (try simp only [Txt.pick, List.getElem?_cons_succ, List.getElem?_cons_zero])
      go_wp2_with fail
      refine (liv_inst HL13.out).mono ?_
      rintro e w' ⟨rfl, rfl⟩
      go_wp2
      refine Txt.SegPost.mk (Txt.Ty.Shown.same (same_base Hblb.out HRd.out.1 HL13.out.1)) ?_
      (try simp only [Txt.pick, List.getElem?_cons_succ, List.getElem?_cons_zero])
      go_wp2
      refine Txt.RunPost.mk ?_
      refine Txt.Ty.wpTr_done (by rfl) ⟨Hinb.out _ (fun b hb => hb), Hinb.out _ (fun b hb => hb), trivial⟩ ?_
      go_wp2
      go_ret
      exact ⟨rfl, HB1.out.trans (HL13.out.1.mono HB1.out.size)⟩
    · obtain ⟨j, rfl⟩ : ∃ i, j = i + 1 := ⟨j - 1, by omega⟩
      have e0 : (((j + 1 : Nat) : Int) - 1) = j := by omega
      rw [e0]
      have hjT : j ≤ 700 := by omega
      have e1 : Hid (psCommit ⟨a, 0, true, b, k⟩ = (⟨a, 0, true, b, k⟩, 7)) := Lib.hid (by simp only [psCommit, Ps.steps, if_true]; rw [if_pos (.inr (by rw [← HTt.out]; omega))])
      have e3 : Hid (psStep ⟨a, 0, true, b, k⟩ = (⟨a, 0, true, b, k + 1⟩, j, 0)) := Lib.hid (by
        simp only [psStep, Ps.steps, if_true, stepped]
        rw [← HTt.out, if_neg (by simp; omega)]
        congr 2; omega)
      have hj0 : (0 : Int) ≤ j := by omega
      have ka := run_str (HRd.out.arg HA.out) 22 5 9 Try.underlying22 Try.underlying5 Try.underlying9
      have HKJ := Lib.hid hkj
      clear hkj e0 hj
      go_upto_region 12 with (fail)
      have hBl := (cells_base Hbla.out HR.out.1)
      refine Txt.Ty.wp_tree bla [4] [] [2, 4] [0, 3, 4] (.alt [1, 2, 5, 6, 7] (.alt [8, 9, 10] (.done) (.no)) (.no)) (by kernel_rfl) (by kernel_rfl) (by kernel_rfl) (by kernel_rfl) hBl ?_
      clear hBl
      (try simp only [Txt.pick, List.getElem?_cons_succ, List.getElem?_cons_zero])
      go_wp2
      refine Txt.RunPost.mk ?_
      refine Txt.Ty.wpTr_alt ?_ Txt.Ty.wpTr_no
      (try simp only [Txt.pick, List.getElem?_cons_succ, List.getElem?_cons_zero])
      go_wp2_with fail
      refine (liv_img HRd.out).mono ?_
      rintro e w10 ⟨a10, c10, rfl, ho10, hL⟩
      have HL10 := Lib.hid hL
      have k1 := run_str (Bytes.row (F := []) ho10 rfl (fun f hf => by cases hf)) 22 5 9 Try.underlying22 Try.underlying5 Try.underlying9
      clear hL ho10
      go_wp2
      refine Txt.SegPost.mk (Txt.Ty.Shown.same (same_base Hbla.out HRd.out.1 HL10.out.1)) ?_
      (try simp only [Txt.pick, List.getElem?_cons_succ, List.getElem?_cons_zero])
      go_wp2
      refine Txt.RunPost.mk ?_
      refine Txt.Ty.wpTr_alt ?_ Txt.Ty.wpTr_no
      (try simp only [Txt.pick, List.getElem?_cons_succ, List.getElem?_cons_zero])
      go_wp2_with fail
      refine (liv_commit HL10.out (by show (0 : Nat) < 1000000; omega)).mono ?_
      rw [e1.out]
      rintro e w11 ⟨rfl, hL⟩
      have HL11 := Lib.hid hL
      clear hL
      go_wp2
      refine Txt.SegPost.mk (Txt.Ty.Shown.same (same_base Hbla.out HRd.out.1 HL11.out.1)) ?_
      (try simp only [Txt.pick, List.getElem?_cons_succ, List.getElem?_cons_zero])
      go_wp2
      refine Txt.RunPost.mk ?_
      refine Txt.Ty.wpTr_done (by rfl) ⟨Hina.out _ (fun b hb => hb), trivial⟩ ?_
      go_wp2_with fail
      refine (liv_step HL11.out).mono ?_
      rw [e3.out]
      rintro e w14 ⟨rfl, hL⟩
      have HL14 := Lib.hid hL
      clear hL
      go_wp2
      go_roundw
      case rel => exact ⟨k + 1, j, by have := HKJ.out; omega, rfl, HL14.out⟩
      case measure => simp [intOf]
set_option maxRecDepth 100000 in
set_option maxHeartbeats 8000000 in
theorem stabort_law (av bv : Value) (a b : List UInt8) (st : Int) (hst0 : 0 ≤ st) (hst1 : st ≤ 255) (w : World) (hA : Bytes [] w av a) (hB : Bytes [] w bv b) : Calls Try.prog 5 #[av, bv, .int .u8 st] w fun e w' => e = .returned (.bool true) ∧ Below w.heap.size w w' := by
  obtain ⟨aa, ac, rfl⟩ := Raw.slice hA
  obtain ⟨ba, bc, rfl⟩ := Raw.slice hB
  have HA0 := Lib.hid hA; have HB0 := Lib.hid hB
  clear hA hB
  by_cases hsz : ¬ (a.length ≤ 700 ∧ b.length ≤ 700)
  · by_cases h1 : a.length ≤ 700
    · have h2 : (700 : Int) < b.length := by omega
      have h1' : ¬ (700 : Int) < a.length := by omega
      clear hsz h1
      go_enter Try.func5, Try.ntmps5
      go_wp2_with fail
      refine (awake_any _).mono ?_
      rintro e w1 ⟨rfl, hb1⟩
      go_wp2
      go_ret
      exact ⟨rfl, hb1⟩
    · have h1' : (700 : Int) < a.length := by omega
      clear hsz h1
      go_enter Try.func5, Try.ntmps5
      go_wp2_with fail
      refine (awake_any _).mono ?_
      rintro e w1 ⟨rfl, hb1⟩
      go_wp2
      go_ret
      exact ⟨rfl, hb1⟩
  obtain ⟨hal, hbl⟩ := Classical.not_not.1 hsz
  clear hsz
  have hai : ¬ (700 : Int) < a.length := by omega
  have hbi : ¬ (700 : Int) < b.length := by omega
  have hai' : (a.length : Int) ≤ 700 := by omega
  have hbi' : (b.length : Int) ≤ 700 := by omega
  go_enter Try.func5, Try.ntmps5
  go_wp2_with fail
  refine (awake_any _).mono ?_
  rintro e w1 ⟨rfl, hb1⟩
  have HA := Lib.hid (Raw.below HA0.out hb1); have HB := Lib.hid (Raw.below HB0.out hb1)
  obtain ⟨bla, hbla1, hbla2⟩ := Raw.blocks HA.out (by omega)
  have Hbla := Lib.hid (fun b hb => (hbla2 b hb).2); have Hina := Lib.hid hbla1
  obtain ⟨blb, hblb1, hblb2⟩ := Raw.blocks HB.out (by omega)
  have Hblb := Lib.hid (fun b hb => (hblb2 b hb).2); have Hinb := Lib.hid hblb1
  have HB1 := Lib.hid hb1
  clear hbla1 hbla2 hblb1 hblb2 hb1
  go_wp2_with fail
  refine (liv_new (w0 := w1) _ a _ (by omega) (Below.refl _ _) HA.out).mono ?_
  rintro e w2 ⟨g, rfl, hL⟩
  have HL2 := Lib.hid hL; clear hL
  go_wp2_with fail
  refine (liv_begin _ b HL2.out (by omega) HB.out).mono ?_
  have q1 : psBegin ⟨a, 0, false, [], 0⟩ b = (⟨a, 0, true, b, 0⟩, tot a b, 0) := rfl
  rw [q1]
  clear q1
  obtain ⟨T, hT⟩ : ∃ T, T = tot a b := ⟨_, rfl⟩
  have hTc : T ≤ cnt b.length + 1 := by rw [hT]; exact tot_le a b
  have HTt := Lib.hid hT
  have hT7 : T ≤ 700 := by unfold cnt at hTc; omega
  rw [← hT]
  rintro e w3 ⟨rfl, hL⟩
  have HL3 := Lib.hid hL; clear hL HL2
  have hTi3 : (T : Int) ≤ 700 := by omega
  go_wp2
  go_loopw [11] (fun i wr => ∃ k : Nat, k ≤ T ∧ i = .int .i64 (k : Int) ∧ Liv w1 g ⟨a, 0, true, b, k⟩ wr) (fun i _ => T - (intOf i).toNat)
  case atStart => exact ⟨0, by omega, rfl, HL3.out⟩
  case round =>
    obtain ⟨k, hkT, rfl, hL⟩ := hrel
    have HR := Lib.hid hL
    have HRd := Lib.hid hL.drew
    clear hL HL3
    have hk7 : (k : Int) ≤ 700 := by omega
    by_cases hgo : k < T ∧ (k : Int) < st
    · obtain ⟨hg1, hg2⟩ := hgo
      have hg1' : (k : Int) < T := by omega
      have e3 : Hid (psStep ⟨a, 0, true, b, k⟩ = (⟨a, 0, true, b, k + 1⟩, T - (k + 1), 0)) := Lib.hid (by
        simp only [psStep, Ps.steps, if_true, stepped]
        rw [← HTt.out, if_neg (by simp; omega)])
      go_wp2_with fail
      refine (liv_step HR.out).mono ?_
      rw [e3.out]
      rintro e w14 ⟨rfl, hL⟩
      have HL14 := Lib.hid hL
      clear hL
      go_wp2
      go_roundw
      case rel => exact ⟨k + 1, by omega, by go_num, HL14.out⟩
      case measure => simp [intOf]; omega
    · have hex : ((k : Int) = T) ∨ ((k : Int) < T ∧ ¬ (k : Int) < st) := by omega
      clear hgo
      have qab : psAbort ⟨a, 0, true, b, k⟩ = (⟨a, 0, false, [], 0⟩, 0) := rfl
      have q1 : Hid (psBegin ⟨a, 0, false, [], 0⟩ b = (⟨a, 0, true, b, 0⟩, T, 0)) := Lib.hid (by rw [HTt.out]; rfl)
      have hq0 : ((strOf a).toList == (strOf a).toList) = true := by simp
      have hq1 : ((strOf b).toList == (strOf b).toList) = true := by simp
      have hways : (¬ (k : Int) < T) ∨ ((k : Int) < T ∧ ¬ (k : Int) < st) := by omega
      clear hex hkT
      rcases hways with hnl | ⟨hex, hex2⟩
      all_goals
        go_upto_region 11 with (fail)
        have hBl := (cells_base Hbla.out HR.out.1)
        refine Txt.Ty.wp_tree bla [8, 16] [] [6, 8, 14, 16] [0] (.alt [1, 2, 3, 4, 7, 8] (.alt [5, 6, 9, 10, 11, 12, 15, 16] (.alt [13, 14, 17, 18, 19, 20] (.alt [21, 22, 23, 24, 25, 27] (.alt [26] (.alt [28, 29, 30, 31, 32] (.alt [33, 34] (.done) (.no)) (.no)) (.no)) (.no)) (.no)) (.no)) (.no)) (by kernel_rfl) (by kernel_rfl) (by kernel_rfl) (by kernel_rfl) hBl ?_
        clear hBl
        (try simp only [Txt.pick, List.getElem?_cons_succ, List.getElem?_cons_zero])
        go_wp2
        refine Txt.RunPost.mk ?_
        refine Txt.Ty.wpTr_alt ?_ Txt.Ty.wpTr_no
        (try simp only [Txt.pick, List.getElem?_cons_succ, List.getElem?_cons_zero])
        go_wp2_with fail
        refine (liv_abort HRd.out).mono ?_
        rw [qab]
        rintro e w10 ⟨rfl, hL⟩
        have HL10 := Lib.hid hL
        have ka := run_str (HL10.out.arg HA.out) 22 5 9 Try.underlying22 Try.underlying5 Try.underlying9
        clear hL
        go_wp2
        refine Txt.SegPost.mk (Txt.Ty.Shown.same (same_base Hbla.out HRd.out.1 HL10.out.1)) ?_
        (try simp only [Txt.pick, List.getElem?_cons_succ, List.getElem?_cons_zero])
        go_wp2
        refine Txt.RunPost.mk ?_
        refine Txt.Ty.wpTr_alt ?_ Txt.Ty.wpTr_no
        (try simp only [Txt.pick, List.getElem?_cons_succ, List.getElem?_cons_zero])
        go_wp2_with fail
        refine (liv_img HL10.out).mono ?_
        rintro e w11 ⟨a11, c11, rfl, ho11, hL⟩
        have HL11 := Lib.hid hL
        have k1 := run_str (Bytes.row (F := []) ho11 rfl (fun f hf => by cases hf)) 22 5 9 Try.underlying22 Try.underlying5 Try.underlying9
        clear hL ho11
        have kb := run_str (HL11.out.arg HA.out) 22 5 9 Try.underlying22 Try.underlying5 Try.underlying9
        go_wp2
        refine Txt.SegPost.mk (Txt.Ty.Shown.same (same_base Hbla.out HRd.out.1 HL11.out.1)) ?_
        (try simp only [Txt.pick, List.getElem?_cons_succ, List.getElem?_cons_zero])
        go_wp2
        refine Txt.RunPost.mk ?_
        refine Txt.Ty.wpTr_alt ?_ Txt.Ty.wpTr_no
        (try simp only [Txt.pick, List.getElem?_cons_succ, List.getElem?_cons_zero])
        have hwk := liv_work HL11.out
        rw [show (⟨a, 0, false, [], 0⟩ : Ps).work = a from rfl] at hwk
        have HWK := Lib.hid hwk
        clear hwk
        go_wp2_with fail
        refine (HWK.out).mono ?_
        rintro e w12 ⟨a12, c12, rfl, ho12, hL⟩
        have HL12 := Lib.hid hL
        have k3 := run_str (Bytes.row (F := []) ho12 rfl (fun f hf => by cases hf)) 22 5 9 Try.underlying22 Try.underlying5 Try.underlying9
        clear hL ho12
        go_wp2
        refine Txt.SegPost.mk (Txt.Ty.Shown.same (same_base Hbla.out HRd.out.1 HL12.out.1)) ?_
        (try simp only [Txt.pick, List.getElem?_cons_succ, List.getElem?_cons_zero])
        go_wp2
        refine Txt.RunPost.mk ?_
        refine Txt.Ty.wpTr_alt ?_ Txt.Ty.wpTr_no
        (try simp only [Txt.pick, List.getElem?_cons_succ, List.getElem?_cons_zero])
        go_wp2_with fail
        refine (liv_ver HL12.out).mono ?_
        rintro e w' ⟨rfl, rfl⟩
        go_wp2
        refine Txt.SegPost.mk (Txt.Ty.Shown.same (same_base Hbla.out HRd.out.1 HL12.out.1)) ?_
        (try simp only [Txt.pick, List.getElem?_cons_succ, List.getElem?_cons_zero])
        go_wp2
        refine Txt.RunPost.mk ?_
        refine Txt.Ty.wpTr_alt ?_ Txt.Ty.wpTr_no
        (try simp only [Txt.pick, List.getElem?_cons_succ, List.getElem?_cons_zero])
        go_wp2_with fail
        refine (liv_sum HL12.out).mono ?_
        rintro e w' ⟨rfl, rfl⟩
        go_wp2
        refine Txt.SegPost.mk (Txt.Ty.Shown.same (same_base Hbla.out HRd.out.1 HL12.out.1)) ?_
        (try simp only [Txt.pick, List.getElem?_cons_succ, List.getElem?_cons_zero])
        go_wp2
        refine Txt.RunPost.mk ?_
        refine Txt.Ty.wpTr_alt ?_ Txt.Ty.wpTr_no
        (try simp only [Txt.pick, List.getElem?_cons_succ, List.getElem?_cons_zero])
        go_wp2_with fail
        refine (of_any (F := []) _ a _ (by omega) (HL12.out.arg HA.out)).mono ?_
        rintro e w13 ⟨rfl, hb13⟩
        have HL13 := Lib.hid (HL12.out.below hb13)
        clear hb13
        go_wp2
        refine Txt.SegPost.mk (Txt.Ty.Shown.same (same_base Hbla.out HRd.out.1 HL13.out.1)) ?_
        (try simp only [Txt.pick, List.getElem?_cons_succ, List.getElem?_cons_zero])
        go_wp2
        refine Txt.RunPost.mk ?_
        refine Txt.Ty.wpTr_alt ?_ Txt.Ty.wpTr_no
        (try simp only [Txt.pick, List.getElem?_cons_succ, List.getElem?_cons_zero])
        go_wp2_with fail
        refine (liv_inst HL13.out).mono ?_
        rintro e w' ⟨rfl, rfl⟩
        go_wp2
        refine Txt.SegPost.mk (Txt.Ty.Shown.same (same_base Hbla.out HRd.out.1 HL13.out.1)) ?_
        (try simp only [Txt.pick, List.getElem?_cons_succ, List.getElem?_cons_zero])
        go_wp2
        refine Txt.RunPost.mk ?_
        refine Txt.Ty.wpTr_done (by rfl) ⟨Hina.out _ (fun b hb => hb), Hina.out _ (fun b hb => hb), trivial⟩ ?_
        go_wp2_with fail
        refine (liv_begin _ b HL13.out (by omega) HB.out).mono ?_
        rw [q1.out]
        rintro e w15 ⟨rfl, hL⟩
        have HL15 := Lib.hid hL; clear hL
        clear qab hk7
        go_wp2
        go_loopw [14] (fun i wr => ∃ k : Nat, k ≤ T ∧ i = .int .i64 (k : Int) ∧ Liv w1 g ⟨a, 0, true, b, k⟩ wr) (fun i _ => T - (intOf i).toNat)
        case atStart => exact ⟨0, by omega, rfl, HL15.out⟩
        case round =>
          obtain ⟨m, hmT, rfl, hL⟩ := hrel
          have HT := Lib.hid hL
          have HTd := Lib.hid hL.drew
          clear hL HL15
          have hm7 : (m : Int) ≤ 700 := by omega
          by_cases hgo : m < T
          · have hg1' : (m : Int) < T := by omega
            have e3 : Hid (psStep ⟨a, 0, true, b, m⟩ = (⟨a, 0, true, b, m + 1⟩, T - (m + 1), 0)) := Lib.hid (by
              simp only [psStep, Ps.steps, if_true, stepped]
              rw [← HTt.out, if_neg (by simp; omega)])
            go_wp2_with fail
            refine (liv_step HT.out).mono ?_
            rw [e3.out]
            rintro e w24 ⟨rfl, hL⟩
            have HL24 := Lib.hid hL
            clear hL
            go_wp2
            go_roundw
            case rel => exact ⟨m + 1, by omega, by go_num, HL24.out⟩
            case measure => simp [intOf]; omega
          · have hmt : m = tot a b := by rw [← HTt.out]; omega
            have e2 : psCommit ⟨a, 0, true, b, m⟩ = (⟨b, 1, false, [], 0⟩, 0) := by rw [hmt]; simp [psCommit, committed, Ps.steps]
            have hnm : ¬ (m : Int) < T := by omega
            clear hmt hgo
            go_upto_region 18 with (fail)
            have hBl := (cells_base Hblb.out HT.out.1)
            refine Txt.Ty.wp_tree blb [17] [] [15, 17] [0, 1, 2, 3, 4, 5, 6, 7, 8] (.alt [9, 10, 11, 12, 13, 16, 17] (.alt [14, 15, 18, 19, 20] (.done) (.no)) (.no)) (by kernel_rfl) (by kernel_rfl) (by kernel_rfl) (by kernel_rfl) hBl ?_
            clear hBl
            (try simp only [Txt.pick, List.getElem?_cons_succ, List.getElem?_cons_zero])
            go_wp2
            refine Txt.RunPost.mk ?_
            refine Txt.Ty.wpTr_alt ?_ Txt.Ty.wpTr_no
            (try simp only [Txt.pick, List.getElem?_cons_succ, List.getElem?_cons_zero])
            go_wp2_with fail
            refine (liv_commit HTd.out (by show (0 : Nat) < 1000000; omega)).mono ?_
            rw [e2]
            rintro e w20 ⟨rfl, hL⟩
            have HL20 := Lib.hid hL
            have kb := run_str (HL20.out.arg HB.out) 22 5 9 Try.underlying22 Try.underlying5 Try.underlying9
            clear hL
            go_wp2
            refine Txt.SegPost.mk (Txt.Ty.Shown.same (same_base Hblb.out HTd.out.1 HL20.out.1)) ?_
            (try simp only [Txt.pick, List.getElem?_cons_succ, List.getElem?_cons_zero])
            go_wp2
            refine Txt.RunPost.mk ?_
            refine Txt.Ty.wpTr_alt ?_ Txt.Ty.wpTr_no
            (try simp only [Txt.pick, List.getElem?_cons_succ, List.getElem?_cons_zero])
            go_wp2_with fail
            refine (liv_img HL20.out).mono ?_
            rintro e w21 ⟨a21, c21, rfl, ho21, hL⟩
            have HL21 := Lib.hid hL
            have k3 := run_str (Bytes.row (F := []) ho21 rfl (fun f hf => by cases hf)) 22 5 9 Try.underlying22 Try.underlying5 Try.underlying9
            clear hL ho21
            go_wp2
            refine Txt.SegPost.mk (Txt.Ty.Shown.same (same_base Hblb.out HTd.out.1 HL21.out.1)) ?_
            (try simp only [Txt.pick, List.getElem?_cons_succ, List.getElem?_cons_zero])
            go_wp2
            refine Txt.RunPost.mk ?_
            refine Txt.Ty.wpTr_done (by rfl) ⟨Hinb.out _ (fun b hb => hb), trivial⟩ ?_
            go_wp2
            go_ret
            exact ⟨rfl, HB1.out.trans (HL21.out.1.mono HB1.out.size)⟩
end Go.Proofs.Ytnbngidelpodkaa
