/- Store: the law Working -/
import Derived.Test.YtnbngidelpodkaaPh
import Derived.Deep.CutRange
namespace Go.Proofs.Ytnbngidelpodkaa
open Go.RowKit Go.Bs Go.Cl Go.Rw Go.Un Go.Im
set_option maxRecDepth 100000 in
set_option maxHeartbeats 8000000 in
theorem stworking_law (av bv : Value) (a b : List UInt8) (st : Nat) (hst1 : st ≤ 255) (w : World) (hA : Bytes [] w av a) (hB : Bytes [] w bv b) : Calls Try.prog 3 #[av, bv, .int .u8 (st : Int)] w fun e w' => e = .returned (.bool true) ∧ Below w.heap.size w w' := by
  obtain ⟨aa, ac, rfl⟩ := Raw.slice hA
  obtain ⟨ba, bc, rfl⟩ := Raw.slice hB
  have HA0 := Lib.hid hA; have HB0 := Lib.hid hB
  clear hA hB
  by_cases hsz : ¬ (a.length ≤ 700 ∧ b.length ≤ 700)
  · by_cases h1 : a.length ≤ 700
    · have h2 : (700 : Int) < b.length := by omega
      have h1' : ¬ (700 : Int) < a.length := by omega
      clear hsz h1
      go_enter Try.func3, Try.ntmps3
      go_wp2_with fail
      refine (awake_any _).mono ?_
      rintro e w1 ⟨rfl, hb1⟩
      go_wp2
      go_ret
      exact ⟨rfl, hb1⟩
    · have h1' : (700 : Int) < a.length := by omega
      clear hsz h1
      go_enter Try.func3, Try.ntmps3
      go_wp2_with fail
      refine (awake_any _).mono ?_
      rintro e w1 ⟨rfl, hb1⟩
      go_wp2
      go_ret
      exact ⟨rfl, hb1⟩
  obtain ⟨hal, hbl⟩ := Classical.not_not.1 hsz
  clear hsz
  have hai : ¬ (700 : Int) < a.length := by omega
  have hbi : ¬ (700 : Int) < b.length := by omega
  have hai' : (a.length : Int) ≤ 700 := by omega
  have hbi' : (b.length : Int) ≤ 700 := by omega
  go_enter Try.func3, Try.ntmps3
  go_wp2_with fail
  refine (awake_any _).mono ?_
  rintro e w1 ⟨rfl, hb1⟩
  have HA := Lib.hid (Raw.below HA0.out hb1); have HB := Lib.hid (Raw.below HB0.out hb1)
  obtain ⟨bla, hbla1, hbla2⟩ := Raw.blocks HA.out (by omega)
  have Hbla := Lib.hid (fun b hb => (hbla2 b hb).2); have Hina := Lib.hid hbla1
  obtain ⟨blb, hblb1, hblb2⟩ := Raw.blocks HB.out (by omega)
  have Hblb := Lib.hid (fun b hb => (hblb2 b hb).2); have Hinb := Lib.hid hblb1
  have HB1 := Lib.hid hb1
  clear hbla1 hbla2 hblb1 hblb2 hb1
  go_wp2_with fail
  refine (liv_new (w0 := w1) _ a _ (by omega) (Below.refl _ _) HA.out).mono ?_
  rintro e w2 ⟨g, rfl, hL⟩
  have HL2 := Lib.hid hL; clear hL
  go_wp2_with fail
  refine (liv_begin _ b HL2.out (by omega) HB.out).mono ?_
  have q1 : psBegin ⟨a, 0, false, [], 0⟩ b = (⟨a, 0, true, b, 0⟩, tot a b, 0) := rfl
  rw [q1]
  clear q1
  obtain ⟨T, hT⟩ : ∃ T, T = tot a b := ⟨_, rfl⟩
  have hTc : T ≤ cnt b.length + 1 := by rw [hT]; exact tot_le a b
  have HTt := Lib.hid hT
  have hT7 : T ≤ 700 := by unfold cnt at hTc; omega
  rw [← hT]
  rintro e w3 ⟨rfl, hL⟩
  have HL3 := Lib.hid hL; clear hL HL2
  have hTi3 : (T : Int) ≤ 700 := by omega
  clear hT
  by_cases hT0 : T = 0
  · have hM := liv_work HL3.out.drew
    have hwk : (⟨a, 0, true, b, 0⟩ : Ps).work = a := wk_zero a b
    rw [hwk] at hM
    have HM := Lib.hid hM
    have HRd := Lib.hid HL3.out.drew
    have ka := run_str (HRd.out.arg HA.out) 22 5 9 Try.underlying22 Try.underlying5 Try.underlying9
    have hq0 : ((strOf a).toList == (strOf a).toList) = true := by simp
    subst hT0
    clear hM hwk
    go_upto_region 8 with (fail)
    have hBl := (cells_base Hbla.out HL3.out.1)
    refine Txt.Ty.wp_tree bla [4] [] [2, 4] [0, 3, 4] (.alt [1, 2, 5, 6] (.done) (.no)) (by kernel_rfl) (by kernel_rfl) (by kernel_rfl) (by kernel_rfl) hBl ?_
    clear hBl
    (try simp only [Txt.pick, List.getElem?_cons_succ, List.getElem?_cons_zero])
    go_wp2
    refine Txt.RunPost.mk ?_
    refine Txt.Ty.wpTr_alt ?_ Txt.Ty.wpTr_no
    (try simp only [Txt.pick, List.getElem?_cons_succ, List.getElem?_cons_zero])
    go_wp2_with fail
    refine (HM.out).mono ?_
    rintro e w10 ⟨a10, c10, rfl, ho10, hL⟩
    have HL10 := Lib.hid hL
    have k1 := run_str (Bytes.row (F := []) ho10 rfl (fun f hf => by cases hf)) 22 5 9 Try.underlying22 Try.underlying5 Try.underlying9
    clear hL ho10
    go_wp2
    refine Txt.SegPost.mk (Txt.Ty.Shown.same (same_base Hbla.out HRd.out.1 HL10.out.1)) ?_
    (try simp only [Txt.pick, List.getElem?_cons_succ, List.getElem?_cons_zero])
    go_wp2
    refine Txt.RunPost.mk ?_
    refine Txt.Ty.wpTr_done (by rfl) ⟨Hina.out _ (fun b hb => hb), trivial⟩ ?_
    go_wp2
    go_ret
    exact ⟨rfl, HB1.out.trans (HL10.out.1.mono HB1.out.size)⟩
  have hTn : ((T : Int) == 0) = false := by simp; omega
  obtain ⟨M, hM⟩ : ∃ M, M = st % T := ⟨_, rfl⟩
  have hKT : M + 1 ≤ T := by have := Nat.mod_lt st (show 0 < T by omega); omega
  have hstm : (st : Int) % T = (M : Int) := by rw [hM]; exact (Int.natCast_emod st T).symm
  have hMi : (M : Int) ≤ 700 := by omega
  have hTpos : (0 : Int) < T := by omega
  have hsti : (0 : Int) ≤ st := by omega
  clear hM
  go_wp2
  clear hstm hTn
  go_loopw [12] (fun i wr => ∃ q : Nat, q ≤ M + 1 ∧ i = .int .i64 (q : Int) ∧ Liv w1 g ⟨a, 0, true, b, q⟩ wr) (fun i _ => M + 1 - (intOf i).toNat)
  case atStart => exact ⟨0, by omega, rfl, HL3.out⟩
  case round =>
    obtain ⟨q, hqM, rfl, hL⟩ := hrel
    have HR := Lib.hid hL
    clear hL HL3
    by_cases hgo : q < M + 1
    · have hg1' : (q : Int) < 1 + (M : Int) := by omega
      have e3 : Hid (psStep ⟨a, 0, true, b, q⟩ = (⟨a, 0, true, b, q + 1⟩, T - (q + 1), 0)) := Lib.hid (by
        simp only [psStep, Ps.steps, if_true, stepped]
        rw [← HTt.out, if_neg (by simp; omega)])
      go_wp2_with fail
      refine (liv_step HR.out).mono ?_
      rw [e3.out]
      rintro e w14 ⟨rfl, hL⟩
      have HL14 := Lib.hid hL
      clear hL
      go_wp2
      go_roundw
      case rel => exact ⟨q + 1, by omega, by go_num, HL14.out⟩
      case measure => simp [intOf]; omega
    · have hqe : q = M + 1 := by omega
      subst hqe
      clear hgo hqM
      obtain ⟨W, hW⟩ : ∃ W, W = wk a b (M + 1) := ⟨_, rfl⟩
      have hrz : rzn a b ≤ 1 := by unfold rzn; split <;> omega
      have hWl : W.length = b.length := by rw [hW, wk_len, if_neg (by omega)]
      have hM := liv_work HR.out
      rw [show (⟨a, 0, true, b, M + 1⟩ : Ps).work = W by rw [hW]; rfl] at hM
      have HM := Lib.hid hM
      have HWe := Lib.hid hW; have HWl := Lib.hid hWl
      have hlt : ¬ (((M + 1 : Nat) : Int) < 1 + (M : Int)) := by omega
      clear hM hW
      obtain ⟨z, hz⟩ : ∃ z, z = rzn a b := ⟨_, rfl⟩
      rw [← hz] at hrz
      have HZ := Lib.hid hz
      have hzd : b.length = a.length ∧ z = 0 ∨ b.length ≠ a.length ∧ z = 1 := by rw [hz]; unfold rzn; by_cases h : b.length = a.length <;> simp [h]
      clear hz
      have HCnt := Lib.hid (fun w => count_any b.length w (by omega))
      obtain ⟨Cn, hCn⟩ : ∃ n, n = cnt b.length := ⟨_, rfl⟩
      have hCn7 : Cn ≤ 700 := by rw [hCn]; unfold cnt; omega
      have HCn := Lib.hid hCn
      rw [← hCn] at HCnt
      clear hCn
      go_wp2_with fail
      refine HM.out.mono ?_
      rintro e w15 ⟨wa, wc, rfl, ho15, hL15⟩
      have HL15 := Lib.hid hL15
      have HWr : Hid (Bytes [] w15 (.slice wa W.length wc) W) := Lib.hid (Bytes.row (F := []) ho15 rfl (fun f hf => by cases hf))
      rw [hWl] at HWr ⊢
      clear ho15 hL15
      have HAr := Lib.hid (HL15.out.arg HA.out); have HBr := Lib.hid (HL15.out.arg HB.out)
      rcases hzd with ⟨hz1, hz2⟩ | ⟨hz1, hz2⟩
      · have hzi : ((a.length : Int) != (b.length : Int)) = false := by simp; omega
        subst hz2
        clear hz1 hWl
        go_upto_region 20 with (fail)
        have HJ := Lib.hid (Below.refl w15.heap.size w15)
        go_wp2
        clear hzi
        go_loopw [14, 15] (fun d i wr => ∃ k dd : Nat, k ≤ Cn ∧ dd = 0 + (difK a b k).length ∧ d = .int .i64 (dd : Int) ∧ i = .int .i64 (k : Int) ∧ Below w15.heap.size w15 wr) (fun _ i _ => Cn - (intOf i).toNat)
        case atStart => exact ⟨0, 0, by omega, rfl, rfl, rfl, HJ.out⟩
        case round =>
          obtain ⟨k, dd, hkC, hdd, rfl, rfl, hbk⟩ := hrel
          have HR0 := Lib.hid hbk
          have HRd := Lib.hid hbk.drew
          have hki : (k : Int) ≤ 700 := by omega
          clear hbk
          obtain ⟨D, hD⟩ : ∃ D, D = (difK a b k).length := ⟨_, rfl⟩
          have HD := Lib.hid hD
          have hD7 : D ≤ 700 := by rw [hD]; have := difK_len a b k; omega
          rw [← hD] at hdd
          have hdd7 : (dd : Int) ≤ 701 := by omega
          have HDD := Lib.hid hdd
          clear hD hdd
          by_cases hlt : k < Cn
          · have hlti : (k : Int) < Cn := by omega
            go_wp2_with fail
            refine (HCnt.out _).mono ?_
            rintro e w' ⟨rfl, rfl⟩
            go_upto_region 23 with (fail)
            go_cut [16, 17, 18] from 79 to 90 (fun x y z wx => x = .string (strOf (pg a k)) ∧ y = .string (strOf (pg b k)) ∧ z = .string (strOf (pg W k)) ∧ Below w15.heap.size w15 wx)
            case first =>
              refine Txt.Ty.wp_tree [] [] [] [11] [0, 1, 4, 5, 8, 9] (.alt [2] (.alt [3] (.alt [6] (.alt [7] (.alt [10, 11, 12, 13, 14] (.done) (.no)) (.alt [10, 11, 12] (.alt [7, 13, 14] (.done) (.no)) (.no))) (.no)) (.alt [6] (.alt [3] (.alt [7] (.alt [10, 11, 12, 13, 14] (.done) (.no)) (.alt [10, 11, 12] (.alt [7, 13, 14] (.done) (.no)) (.no))) (.alt [7] (.alt [3] (.alt [10, 11, 12, 13, 14] (.done) (.no)) (.alt [10, 11] (.alt [3, 12, 13, 14] (.done) (.no)) (.no))) (.alt [10, 11] (.alt [3, 12] (.alt [7, 13, 14] (.done) (.no)) (.alt [7] (.alt [3, 12, 13, 14] (.done) (.no)) (.no))) (.no)))) (.no))) (.no)) (by kernel_rfl) (by kernel_rfl) (by kernel_rfl) (by kernel_rfl) (fun _ h => by cases h) ?_
              (try simp only [Txt.pick, List.getElem?_cons_succ, List.getElem?_cons_zero])
              go_wp2
              refine Txt.RunPost.mk ?_
              refine Txt.Ty.wpTr_alt ?_ Txt.Ty.wpTr_no
              (try simp only [Txt.pick, List.getElem?_cons_succ, List.getElem?_cons_zero])
              go_wp2_with fail
              refine (page_any (F := []) _ a k _ (by omega) (by omega) (Raw.below HAr.out HRd.out)).mono ?_
              rintro e v1 ⟨p1, rfl, hp1, hb1⟩
              obtain ⟨q1, s1, rfl⟩ := Raw.slice hp1
              have HV1 := Lib.hid (HRd.out.trans (hb1.mono HRd.out.size))
              have HN1 := Lib.hid (Raw.apart (F' := []) hp1 (by simp))
              clear hp1 hb1
              go_wp2
              refine Txt.SegPost.mk Txt.Ty.Shown.none ?_
              (try simp only [Txt.pick, List.getElem?_cons_succ, List.getElem?_cons_zero])
              go_wp2
              refine Txt.RunPost.mk ?_
              refine Txt.Ty.wpTr_alt ?_ ?_
              · skip
                (try simp only [Txt.pick, List.getElem?_cons_succ, List.getElem?_cons_zero])
                have kx := run_str HN1.out 22 5 9 Try.underlying22 Try.underlying5 Try.underlying9
                go_wp2
                refine Txt.SegPost.mk Txt.Ty.Shown.none ?_
                (try simp only [Txt.pick, List.getElem?_cons_succ, List.getElem?_cons_zero])
                go_wp2
                refine Txt.RunPost.mk ?_
                refine Txt.Ty.wpTr_alt ?_ Txt.Ty.wpTr_no
                (try simp only [Txt.pick, List.getElem?_cons_succ, List.getElem?_cons_zero])
                go_wp2_with fail
                refine (page_any (F := []) _ b k _ (by omega) (by omega) (Raw.below HBr.out HV1.out)).mono ?_
                rintro e v2 ⟨p2, rfl, hp2, hb2⟩
                obtain ⟨q2, s2, rfl⟩ := Raw.slice hp2
                have HV2 := Lib.hid (HV1.out.trans (hb2.mono HV1.out.size))
                have HN2 := Lib.hid (Raw.apart (F' := []) hp2 (by simp))
                have HN2x := Lib.hid (Raw.below HN1.out hb2)
                clear hp2 hb2
                go_wp2
                refine Txt.SegPost.mk Txt.Ty.Shown.none ?_
                (try simp only [Txt.pick, List.getElem?_cons_succ, List.getElem?_cons_zero])
                go_wp2
                refine Txt.RunPost.mk ?_
                refine Txt.Ty.wpTr_alt ?_ ?_
                · skip
                  (try simp only [Txt.pick, List.getElem?_cons_succ, List.getElem?_cons_zero])
                  have ky := run_str HN2.out 22 5 9 Try.underlying22 Try.underlying5 Try.underlying9
                  go_wp2
                  refine Txt.SegPost.mk Txt.Ty.Shown.none ?_
                  (try simp only [Txt.pick, List.getElem?_cons_succ, List.getElem?_cons_zero])
                  go_wp2
                  refine Txt.RunPost.mk ?_
                  refine Txt.Ty.wpTr_alt ?_ Txt.Ty.wpTr_no
                  (try simp only [Txt.pick, List.getElem?_cons_succ, List.getElem?_cons_zero])
                  go_wp2_with fail
                  refine (page_any (F := []) _ W k _ (by have := HWl.out; omega) (by omega) (Raw.below HWr.out HV2.out)).mono ?_
                  rintro e v3 ⟨p3, rfl, hp3, hb3⟩
                  obtain ⟨q3, s3, rfl⟩ := Raw.slice hp3
                  have HV3 := Lib.hid (HV2.out.trans (hb3.mono HV2.out.size))
                  have HN3 := Lib.hid (Raw.apart (F' := []) hp3 (by simp))
                  have HN3x := Lib.hid (Raw.below HN2x.out hb3)
                  have HN3y := Lib.hid (Raw.below HN2.out hb3)
                  clear hp3 hb3
                  go_wp2
                  refine Txt.SegPost.mk Txt.Ty.Shown.none ?_
                  have kz := run_str HN3.out 22 5 9 Try.underlying22 Try.underlying5 Try.underlying9
                  (try simp only [Txt.pick, List.getElem?_cons_succ, List.getElem?_cons_zero])
                  go_wp2
                  refine Txt.RunPost.mk ?_
                  refine Txt.Ty.wpTr_done (by rfl) trivial ?_
                  go_wp2
                  go_meet
                  case rel => exact ⟨rfl, rfl, rfl, HV3.out⟩
                · skip
                  refine Txt.Ty.wpTr_alt ?_ Txt.Ty.wpTr_no
                  (try simp only [Txt.pick, List.getElem?_cons_succ, List.getElem?_cons_zero])
                  go_wp2_with fail
                  refine (page_any (F := []) _ W k _ (by have := HWl.out; omega) (by omega) (Raw.below HWr.out HV2.out)).mono ?_
                  rintro e v4 ⟨p4, rfl, hp4, hb4⟩
                  obtain ⟨q4, s4, rfl⟩ := Raw.slice hp4
                  have HV4 := Lib.hid (HV2.out.trans (hb4.mono HV2.out.size))
                  have HN4 := Lib.hid (Raw.apart (F' := []) hp4 (by simp))
                  have HN4x := Lib.hid (Raw.below HN2x.out hb4)
                  have HN4y := Lib.hid (Raw.below HN2.out hb4)
                  clear hp4 hb4
                  go_wp2
                  refine Txt.SegPost.mk Txt.Ty.Shown.none ?_
                  have kz := run_str HN4.out 22 5 9 Try.underlying22 Try.underlying5 Try.underlying9
                  (try simp only [Txt.pick, List.getElem?_cons_succ, List.getElem?_cons_zero])
                  go_wp2
                  refine Txt.RunPost.mk ?_
                  refine Txt.Ty.wpTr_alt ?_ Txt.Ty.wpTr_no
                  (try simp only [Txt.pick, List.getElem?_cons_succ, List.getElem?_cons_zero])
                  have ky := run_str HN4y.out 22 5 9 Try.underlying22 Try.underlying5 Try.underlying9
                  go_wp2
                  refine Txt.SegPost.mk Txt.Ty.Shown.none ?_
                  (try simp only [Txt.pick, List.getElem?_cons_succ, List.getElem?_cons_zero])
                  go_wp2
                  refine Txt.RunPost.mk ?_
                  refine Txt.Ty.wpTr_done (by rfl) trivial ?_
                  go_wp2
                  go_meet
                  case rel => exact ⟨rfl, rfl, rfl, HV4.out⟩
              · skip
                refine Txt.Ty.wpTr_alt ?_ Txt.Ty.wpTr_no
                (try simp only [Txt.pick, List.getElem?_cons_succ, List.getElem?_cons_zero])
                go_wp2_with fail
                refine (page_any (F := []) _ b k _ (by omega) (by omega) (Raw.below HBr.out HV1.out)).mono ?_
                rintro e v5 ⟨p5, rfl, hp5, hb5⟩
                obtain ⟨q5, s5, rfl⟩ := Raw.slice hp5
                have HV5 := Lib.hid (HV1.out.trans (hb5.mono HV1.out.size))
                have HN5 := Lib.hid (Raw.apart (F' := []) hp5 (by simp))
                have HN5x := Lib.hid (Raw.below HN1.out hb5)
                clear hp5 hb5
                go_wp2
                refine Txt.SegPost.mk Txt.Ty.Shown.none ?_
                (try simp only [Txt.pick, List.getElem?_cons_succ, List.getElem?_cons_zero])
                go_wp2
                refine Txt.RunPost.mk ?_
                refine Txt.Ty.wpTr_alt ?_ ?_
                · skip
                  (try simp only [Txt.pick, List.getElem?_cons_succ, List.getElem?_cons_zero])
                  have kx := run_str HN5x.out 22 5 9 Try.underlying22 Try.underlying5 Try.underlying9
                  go_wp2
                  refine Txt.SegPost.mk Txt.Ty.Shown.none ?_
                  (try simp only [Txt.pick, List.getElem?_cons_succ, List.getElem?_cons_zero])
                  go_wp2
                  refine Txt.RunPost.mk ?_
                  refine Txt.Ty.wpTr_alt ?_ ?_
                  · skip
                    (try simp only [Txt.pick, List.getElem?_cons_succ, List.getElem?_cons_zero])
                    have ky := run_str HN5.out 22 5 9 Try.underlying22 Try.underlying5 Try.underlying9
                    go_wp2
                    refine Txt.SegPost.mk Txt.Ty.Shown.none ?_
                    (try simp only [Txt.pick, List.getElem?_cons_succ, List.getElem?_cons_zero])
                    go_wp2
                    refine Txt.RunPost.mk ?_
                    refine Txt.Ty.wpTr_alt ?_ Txt.Ty.wpTr_no
                    (try simp only [Txt.pick, List.getElem?_cons_succ, List.getElem?_cons_zero])
                    go_wp2_with fail
                    refine (page_any (F := []) _ W k _ (by have := HWl.out; omega) (by omega) (Raw.below HWr.out HV5.out)).mono ?_
                    rintro e v6 ⟨p6, rfl, hp6, hb6⟩
                    obtain ⟨q6, s6, rfl⟩ := Raw.slice hp6
                    have HV6 := Lib.hid (HV5.out.trans (hb6.mono HV5.out.size))
                    have HN6 := Lib.hid (Raw.apart (F' := []) hp6 (by simp))
                    have HN6x := Lib.hid (Raw.below HN5x.out hb6)
                    have HN6y := Lib.hid (Raw.below HN5.out hb6)
                    clear hp6 hb6
                    go_wp2
                    refine Txt.SegPost.mk Txt.Ty.Shown.none ?_
                    have kz := run_str HN6.out 22 5 9 Try.underlying22 Try.underlying5 Try.underlying9
                    (try simp only [Txt.pick, List.getElem?_cons_succ, List.getElem?_cons_zero])
                    go_wp2
                    refine Txt.RunPost.mk ?_
                    refine Txt.Ty.wpTr_done (by rfl) trivial ?_
                    go_wp2
                    go_meet
                    case rel => exact ⟨rfl, rfl, rfl, HV6.out⟩
                  · skip
                    refine Txt.Ty.wpTr_alt ?_ Txt.Ty.wpTr_no
                    (try simp only [Txt.pick, List.getElem?_cons_succ, List.getElem?_cons_zero])
                    go_wp2_with fail
                    refine (page_any (F := []) _ W k _ (by have := HWl.out; omega) (by omega) (Raw.below HWr.out HV5.out)).mono ?_
                    rintro e v7 ⟨p7, rfl, hp7, hb7⟩
                    obtain ⟨q7, s7, rfl⟩ := Raw.slice hp7
                    have HV7 := Lib.hid (HV5.out.trans (hb7.mono HV5.out.size))
                    have HN7 := Lib.hid (Raw.apart (F' := []) hp7 (by simp))
                    have HN7x := Lib.hid (Raw.below HN5x.out hb7)
                    have HN7y := Lib.hid (Raw.below HN5.out hb7)
                    clear hp7 hb7
                    go_wp2
                    refine Txt.SegPost.mk Txt.Ty.Shown.none ?_
                    have kz := run_str HN7.out 22 5 9 Try.underlying22 Try.underlying5 Try.underlying9
                    (try simp only [Txt.pick, List.getElem?_cons_succ, List.getElem?_cons_zero])
                    go_wp2
                    refine Txt.RunPost.mk ?_
                    refine Txt.Ty.wpTr_alt ?_ Txt.Ty.wpTr_no
                    (try simp only [Txt.pick, List.getElem?_cons_succ, List.getElem?_cons_zero])
                    have ky := run_str HN7y.out 22 5 9 Try.underlying22 Try.underlying5 Try.underlying9
                    go_wp2
                    refine Txt.SegPost.mk Txt.Ty.Shown.none ?_
                    (try simp only [Txt.pick, List.getElem?_cons_succ, List.getElem?_cons_zero])
                    go_wp2
                    refine Txt.RunPost.mk ?_
                    refine Txt.Ty.wpTr_done (by rfl) trivial ?_
                    go_wp2
                    go_meet
                    case rel => exact ⟨rfl, rfl, rfl, HV7.out⟩
                · skip
                  refine Txt.Ty.wpTr_alt ?_ ?_
                  · skip
                    (try simp only [Txt.pick, List.getElem?_cons_succ, List.getElem?_cons_zero])
                    have ky := run_str HN5.out 22 5 9 Try.underlying22 Try.underlying5 Try.underlying9
                    go_wp2
                    refine Txt.SegPost.mk Txt.Ty.Shown.none ?_
                    (try simp only [Txt.pick, List.getElem?_cons_succ, List.getElem?_cons_zero])
                    go_wp2
                    refine Txt.RunPost.mk ?_
                    refine Txt.Ty.wpTr_alt ?_ ?_
                    · skip
                      (try simp only [Txt.pick, List.getElem?_cons_succ, List.getElem?_cons_zero])
                      have kx := run_str HN5x.out 22 5 9 Try.underlying22 Try.underlying5 Try.underlying9
                      go_wp2
                      refine Txt.SegPost.mk Txt.Ty.Shown.none ?_
                      (try simp only [Txt.pick, List.getElem?_cons_succ, List.getElem?_cons_zero])
                      go_wp2
                      refine Txt.RunPost.mk ?_
                      refine Txt.Ty.wpTr_alt ?_ Txt.Ty.wpTr_no
                      (try simp only [Txt.pick, List.getElem?_cons_succ, List.getElem?_cons_zero])
                      go_wp2_with fail
                      refine (page_any (F := []) _ W k _ (by have := HWl.out; omega) (by omega) (Raw.below HWr.out HV5.out)).mono ?_
                      rintro e v8 ⟨p8, rfl, hp8, hb8⟩
                      obtain ⟨q8, s8, rfl⟩ := Raw.slice hp8
                      have HV8 := Lib.hid (HV5.out.trans (hb8.mono HV5.out.size))
                      have HN8 := Lib.hid (Raw.apart (F' := []) hp8 (by simp))
                      have HN8x := Lib.hid (Raw.below HN5x.out hb8)
                      have HN8y := Lib.hid (Raw.below HN5.out hb8)
                      clear hp8 hb8
                      go_wp2
                      refine Txt.SegPost.mk Txt.Ty.Shown.none ?_
                      have kz := run_str HN8.out 22 5 9 Try.underlying22 Try.underlying5 Try.underlying9
                      (try simp only [Txt.pick, List.getElem?_cons_succ, List.getElem?_cons_zero])
                      go_wp2
                      refine Txt.RunPost.mk ?_
                      refine Txt.Ty.wpTr_done (by rfl) trivial ?_
                      go_wp2
                      go_meet
                      case rel => exact ⟨rfl, rfl, rfl, HV8.out⟩
                    · skip
                      refine Txt.Ty.wpTr_alt ?_ Txt.Ty.wpTr_no
                      (try simp only [Txt.pick, List.getElem?_cons_succ, List.getElem?_cons_zero])
                      go_wp2_with fail
                      refine (page_any (F := []) _ W k _ (by have := HWl.out; omega) (by omega) (Raw.below HWr.out HV5.out)).mono ?_
                      rintro e v9 ⟨p9, rfl, hp9, hb9⟩
                      obtain ⟨q9, s9, rfl⟩ := Raw.slice hp9
                      have HV9 := Lib.hid (HV5.out.trans (hb9.mono HV5.out.size))
                      have HN9 := Lib.hid (Raw.apart (F' := []) hp9 (by simp))
                      have HN9x := Lib.hid (Raw.below HN5x.out hb9)
                      have HN9y := Lib.hid (Raw.below HN5.out hb9)
                      clear hp9 hb9
                      go_wp2
                      refine Txt.SegPost.mk Txt.Ty.Shown.none ?_
                      have kz := run_str HN9.out 22 5 9 Try.underlying22 Try.underlying5 Try.underlying9
                      (try simp only [Txt.pick, List.getElem?_cons_succ, List.getElem?_cons_zero])
                      go_wp2
                      refine Txt.RunPost.mk ?_
                      refine Txt.Ty.wpTr_alt ?_ Txt.Ty.wpTr_no
                      (try simp only [Txt.pick, List.getElem?_cons_succ, List.getElem?_cons_zero])
                      have kx := run_str HN9x.out 22 5 9 Try.underlying22 Try.underlying5 Try.underlying9
                      go_wp2
                      refine Txt.SegPost.mk Txt.Ty.Shown.none ?_
                      (try simp only [Txt.pick, List.getElem?_cons_succ, List.getElem?_cons_zero])
                      go_wp2
                      refine Txt.RunPost.mk ?_
                      refine Txt.Ty.wpTr_done (by rfl) trivial ?_
                      go_wp2
                      go_meet
                      case rel => exact ⟨rfl, rfl, rfl, HV9.out⟩
                  · skip
                    refine Txt.Ty.wpTr_alt ?_ Txt.Ty.wpTr_no
                    (try simp only [Txt.pick, List.getElem?_cons_succ, List.getElem?_cons_zero])
                    go_wp2_with fail
                    refine (page_any (F := []) _ W k _ (by have := HWl.out; omega) (by omega) (Raw.below HWr.out HV5.out)).mono ?_
                    rintro e v10 ⟨p10, rfl, hp10, hb10⟩
                    obtain ⟨q10, s10, rfl⟩ := Raw.slice hp10
                    have HV10 := Lib.hid (HV5.out.trans (hb10.mono HV5.out.size))
                    have HN10 := Lib.hid (Raw.apart (F' := []) hp10 (by simp))
                    have HN10x := Lib.hid (Raw.below HN5x.out hb10)
                    have HN10y := Lib.hid (Raw.below HN5.out hb10)
                    clear hp10 hb10
                    go_wp2
                    refine Txt.SegPost.mk Txt.Ty.Shown.none ?_
                    have kz := run_str HN10.out 22 5 9 Try.underlying22 Try.underlying5 Try.underlying9
                    (try simp only [Txt.pick, List.getElem?_cons_succ, List.getElem?_cons_zero])
                    go_wp2
                    refine Txt.RunPost.mk ?_
                    refine Txt.Ty.wpTr_alt ?_ ?_
                    · skip
                      (try simp only [Txt.pick, List.getElem?_cons_succ, List.getElem?_cons_zero])
                      have kx := run_str HN10x.out 22 5 9 Try.underlying22 Try.underlying5 Try.underlying9
                      go_wp2
                      refine Txt.SegPost.mk Txt.Ty.Shown.none ?_
                      (try simp only [Txt.pick, List.getElem?_cons_succ, List.getElem?_cons_zero])
                      go_wp2
                      refine Txt.RunPost.mk ?_
                      refine Txt.Ty.wpTr_alt ?_ Txt.Ty.wpTr_no
                      (try simp only [Txt.pick, List.getElem?_cons_succ, List.getElem?_cons_zero])
                      have ky := run_str HN10y.out 22 5 9 Try.underlying22 Try.underlying5 Try.underlying9
                      go_wp2
                      refine Txt.SegPost.mk Txt.Ty.Shown.none ?_
                      (try simp only [Txt.pick, List.getElem?_cons_succ, List.getElem?_cons_zero])
                      go_wp2
                      refine Txt.RunPost.mk ?_
                      refine Txt.Ty.wpTr_done (by rfl) trivial ?_
                      go_wp2
                      go_meet
                      case rel => exact ⟨rfl, rfl, rfl, HV10.out⟩
                    · skip
                      refine Txt.Ty.wpTr_alt ?_ Txt.Ty.wpTr_no
                      (try simp only [Txt.pick, List.getElem?_cons_succ, List.getElem?_cons_zero])
                      have ky := run_str HN10y.out 22 5 9 Try.underlying22 Try.underlying5 Try.underlying9
                      go_wp2
                      refine Txt.SegPost.mk Txt.Ty.Shown.none ?_
                      (try simp only [Txt.pick, List.getElem?_cons_succ, List.getElem?_cons_zero])
                      go_wp2
                      refine Txt.RunPost.mk ?_
                      refine Txt.Ty.wpTr_alt ?_ Txt.Ty.wpTr_no
                      (try simp only [Txt.pick, List.getElem?_cons_succ, List.getElem?_cons_zero])
                      have kx := run_str HN10x.out 22 5 9 Try.underlying22 Try.underlying5 Try.underlying9
                      go_wp2
                      refine Txt.SegPost.mk Txt.Ty.Shown.none ?_
                      (try simp only [Txt.pick, List.getElem?_cons_succ, List.getElem?_cons_zero])
                      go_wp2
                      refine Txt.RunPost.mk ?_
                      refine Txt.Ty.wpTr_done (by rfl) trivial ?_
                      go_wp2
                      go_meet
                      case rel => exact ⟨rfl, rfl, rfl, HV10.out⟩
            case rest =>
              obtain ⟨rfl, rfl, rfl, hbw⟩ := hcut
              have HBW := Lib.hid hbw
              clear hbw
              have hsucc : (difK a b (k + 1)).length = if pg a k = pg b k then D else D + 1 := by
                rw [difK_succ, HD.out]; split <;> simp
              have HSu := Lib.hid hsucc
              have hkb : k < cnt b.length := by rw [← HCn.out]; exact hlt
              obtain ⟨p1, p2, p3⟩ := wk_pg (a := a) (b := b) (k := M + 1) (i := k) (by rw [← HZ.out]; omega) hkb
              rw [← HD.out, ← HZ.out, ← HWe.out] at p2 p3
              rw [← HWe.out] at p1
              obtain ⟨X, hX⟩ : ∃ X, X = strOf (pg a k) := ⟨_, rfl⟩
              obtain ⟨Y, hY⟩ : ∃ Y, Y = strOf (pg b k) := ⟨_, rfl⟩
              obtain ⟨V, hV⟩ : ∃ V, V = strOf (pg W k) := ⟨_, rfl⟩
              have sxy : (X.toList == Y.toList) = decide (pg a k = pg b k) := by rw [hX, hY, strOf_eq]
              have svy : (V.toList == Y.toList) = decide (pg W k = pg b k) := by rw [hV, hY, strOf_eq]
              have svx : (V.toList == X.toList) = decide (pg W k = pg a k) := by rw [hV, hX, strOf_eq]
              have lx : X.size = (pg a k).length := by rw [hX]; simp [strOf, ByteArray.size]
              have ly : Y.size = (pg b k).length := by rw [hY]; simp [strOf, ByteArray.size]
              rw [← hX, ← hY, ← hV]
              clear hX hY hV hsucc
              by_cases hd : pg a k = pg b k
              · have hvy := p1 hd
                rw [decide_eq_true hd] at sxy
                rw [decide_eq_true hvy] at svy
                have hS := HSu.out
                rw [if_pos hd] at hS
                have HS2 := Lib.hid hS
                clear p1 p2 p3 hd hvy svx lx ly hS
                go_wp2
                go_roundw
                case rel => exact ⟨k + 1, dd, by omega, by (rw [HS2.out, HDD.out]; try omega), by go_num, by go_num, HBW.out⟩
                case measure => simp [intOf]; omega
              · rw [decide_eq_false hd] at sxy
                have hS := HSu.out
                rw [if_neg hd] at hS
                have HS2 := Lib.hid hS
                by_cases hle : D + 1 + 0 ≤ M + 1
                · have hvy := p2 hd hle
                  rw [decide_eq_true hvy] at svy
                  have hlei : (dd : Int) + 1 ≤ 1 + (M : Int) := by have := HDD.out; omega
                  clear p1 p2 p3 hd hvy svx lx ly hS hle
                  go_wp2
                  go_roundw
                  case rel => exact ⟨k + 1, dd + 1, by omega, by (rw [HS2.out, HDD.out]; try omega), by go_num, by go_num, HBW.out⟩
                  case measure => simp [intOf]; omega
                · have hlei : 1 + (M : Int) < (dd : Int) + 1 := by have := HDD.out; omega
                  by_cases hll : (pg a k).length = (pg b k).length
                  · have hvx := p3 hd (by omega) hll
                    rw [decide_eq_true hvx] at svx
                    rw [hll] at lx
                    clear p1 p2 p3 hd hvx svy hS hle hll
                    go_wp2
                    go_roundw
                    case rel => exact ⟨k + 1, dd + 1, by omega, by (rw [HS2.out, HDD.out]; try omega), by go_num, by go_num, HBW.out⟩
                    case measure => simp [intOf]; omega
                  · have hlf : (((pg a k).length : Int) == ((pg b k).length : Int)) = false := by simp; omega
                    clear p1 p2 p3 hd svx svy hS hle hll
                    go_wp2
                    go_roundw
                    case rel => exact ⟨k + 1, dd + 1, by omega, by (rw [HS2.out, HDD.out]; try omega), by go_num, by go_num, HBW.out⟩
                    case measure => simp [intOf]; omega
          · obtain rfl : k = Cn := by omega
            go_wp2_with fail
            refine (HCnt.out _).mono ?_
            rintro e w' ⟨rfl, rfl⟩
            go_wp2
            go_ret
            exact ⟨rfl, HB1.out.trans ((HL15.out.1.trans (HR0.out.mono HL15.out.1.size)).mono HB1.out.size)⟩
      · have hzi : ((a.length : Int) != (b.length : Int)) = true := by simp; omega
        subst hz2
        clear hz1 hWl
        go_upto_region 20 with (fail)
        have HJ := Lib.hid (Below.refl w15.heap.size w15)
        go_wp2
        clear hzi
        go_loopw [14, 15] (fun d i wr => ∃ k dd : Nat, k ≤ Cn ∧ dd = 1 + (difK a b k).length ∧ d = .int .i64 (dd : Int) ∧ i = .int .i64 (k : Int) ∧ Below w15.heap.size w15 wr) (fun _ i _ => Cn - (intOf i).toNat)
        case atStart => exact ⟨0, 1, by omega, rfl, rfl, rfl, HJ.out⟩
        case round =>
          obtain ⟨k, dd, hkC, hdd, rfl, rfl, hbk⟩ := hrel
          have HR0 := Lib.hid hbk
          have HRd := Lib.hid hbk.drew
          have hki : (k : Int) ≤ 700 := by omega
          clear hbk
          obtain ⟨D, hD⟩ : ∃ D, D = (difK a b k).length := ⟨_, rfl⟩
          have HD := Lib.hid hD
          have hD7 : D ≤ 700 := by rw [hD]; have := difK_len a b k; omega
          rw [← hD] at hdd
          have hdd7 : (dd : Int) ≤ 701 := by omega
          have HDD := Lib.hid hdd
          clear hD hdd
          by_cases hlt : k < Cn
          · have hlti : (k : Int) < Cn := by omega
            go_wp2_with fail
            refine (HCnt.out _).mono ?_
            rintro e w' ⟨rfl, rfl⟩
            go_upto_region 23 with (fail)
            go_cut [16, 17, 18] from 79 to 90 (fun x y z wx => x = .string (strOf (pg a k)) ∧ y = .string (strOf (pg b k)) ∧ z = .string (strOf (pg W k)) ∧ Below w15.heap.size w15 wx)
            case first =>
              refine Txt.Ty.wp_tree [] [] [] [11] [0, 1, 4, 5, 8, 9] (.alt [2] (.alt [3] (.alt [6] (.alt [7] (.alt [10, 11, 12, 13, 14] (.done) (.no)) (.alt [10, 11, 12] (.alt [7, 13, 14] (.done) (.no)) (.no))) (.no)) (.alt [6] (.alt [3] (.alt [7] (.alt [10, 11, 12, 13, 14] (.done) (.no)) (.alt [10, 11, 12] (.alt [7, 13, 14] (.done) (.no)) (.no))) (.alt [7] (.alt [3] (.alt [10, 11, 12, 13, 14] (.done) (.no)) (.alt [10, 11] (.alt [3, 12, 13, 14] (.done) (.no)) (.no))) (.alt [10, 11] (.alt [3, 12] (.alt [7, 13, 14] (.done) (.no)) (.alt [7] (.alt [3, 12, 13, 14] (.done) (.no)) (.no))) (.no)))) (.no))) (.no)) (by kernel_rfl) (by kernel_rfl) (by kernel_rfl) (by kernel_rfl) (fun _ h => by cases h) ?_
              (try simp only [Txt.pick, List.getElem?_cons_succ, List.getElem?_cons_zero])
              go_wp2
              refine Txt.RunPost.mk ?_
              refine Txt.Ty.wpTr_alt ?_ Txt.Ty.wpTr_no
              (try simp only [Txt.pick, List.getElem?_cons_succ, List.getElem?_cons_zero])
              go_wp2_with fail
              refine (page_any (F := []) _ a k _ (by omega) (by omega) (Raw.below HAr.out HRd.out)).mono ?_
              rintro e v1 ⟨p1, rfl, hp1, hb1⟩
              obtain ⟨q1, s1, rfl⟩ := Raw.slice hp1
              have HV1 := Lib.hid (HRd.out.trans (hb1.mono HRd.out.size))
              have HN1 := Lib.hid (Raw.apart (F' := []) hp1 (by simp))
              clear hp1 hb1
              go_wp2
              refine Txt.SegPost.mk Txt.Ty.Shown.none ?_
              (try simp only [Txt.pick, List.getElem?_cons_succ, List.getElem?_cons_zero])
              go_wp2
              refine Txt.RunPost.mk ?_
              refine Txt.Ty.wpTr_alt ?_ ?_
              · skip
                (try simp only [Txt.pick, List.getElem?_cons_succ, List.getElem?_cons_zero])
                have kx := run_str HN1.out 22 5 9 Try.underlying22 Try.underlying5 Try.underlying9
                go_wp2
                refine Txt.SegPost.mk Txt.Ty.Shown.none ?_
                (try simp only [Txt.pick, List.getElem?_cons_succ, List.getElem?_cons_zero])
                go_wp2
                refine Txt.RunPost.mk ?_
                refine Txt.Ty.wpTr_alt ?_ Txt.Ty.wpTr_no
                (try simp only [Txt.pick, List.getElem?_cons_succ, List.getElem?_cons_zero])
                go_wp2_with fail
                refine (page_any (F := []) _ b k _ (by omega) (by omega) (Raw.below HBr.out HV1.out)).mono ?_
                rintro e v2 ⟨p2, rfl, hp2, hb2⟩
                obtain ⟨q2, s2, rfl⟩ := Raw.slice hp2
                have HV2 := Lib.hid (HV1.out.trans (hb2.mono HV1.out.size))
                have HN2 := Lib.hid (Raw.apart (F' := []) hp2 (by simp))
                have HN2x := Lib.hid (Raw.below HN1.out hb2)
                clear hp2 hb2
                go_wp2
                refine Txt.SegPost.mk Txt.Ty.Shown.none ?_
                (try simp only [Txt.pick, List.getElem?_cons_succ, List.getElem?_cons_zero])
                go_wp2
                refine Txt.RunPost.mk ?_
                refine Txt.Ty.wpTr_alt ?_ ?_
                · skip
                  (try simp only [Txt.pick, List.getElem?_cons_succ, List.getElem?_cons_zero])
                  have ky := run_str HN2.out 22 5 9 Try.underlying22 Try.underlying5 Try.underlying9
                  go_wp2
                  refine Txt.SegPost.mk Txt.Ty.Shown.none ?_
                  (try simp only [Txt.pick, List.getElem?_cons_succ, List.getElem?_cons_zero])
                  go_wp2
                  refine Txt.RunPost.mk ?_
                  refine Txt.Ty.wpTr_alt ?_ Txt.Ty.wpTr_no
                  (try simp only [Txt.pick, List.getElem?_cons_succ, List.getElem?_cons_zero])
                  go_wp2_with fail
                  refine (page_any (F := []) _ W k _ (by have := HWl.out; omega) (by omega) (Raw.below HWr.out HV2.out)).mono ?_
                  rintro e v3 ⟨p3, rfl, hp3, hb3⟩
                  obtain ⟨q3, s3, rfl⟩ := Raw.slice hp3
                  have HV3 := Lib.hid (HV2.out.trans (hb3.mono HV2.out.size))
                  have HN3 := Lib.hid (Raw.apart (F' := []) hp3 (by simp))
                  have HN3x := Lib.hid (Raw.below HN2x.out hb3)
                  have HN3y := Lib.hid (Raw.below HN2.out hb3)
                  clear hp3 hb3
                  go_wp2
                  refine Txt.SegPost.mk Txt.Ty.Shown.none ?_
                  have kz := run_str HN3.out 22 5 9 Try.underlying22 Try.underlying5 Try.underlying9
                  (try simp only [Txt.pick, List.getElem?_cons_succ, List.getElem?_cons_zero])
                  go_wp2
                  refine Txt.RunPost.mk ?_
                  refine Txt.Ty.wpTr_done (by rfl) trivial ?_
                  go_wp2
                  go_meet
                  case rel => exact ⟨rfl, rfl, rfl, HV3.out⟩
                · skip
                  refine Txt.Ty.wpTr_alt ?_ Txt.Ty.wpTr_no
                  (try simp only [Txt.pick, List.getElem?_cons_succ, List.getElem?_cons_zero])
                  go_wp2_with fail
                  refine (page_any (F := []) _ W k _ (by have := HWl.out; omega) (by omega) (Raw.below HWr.out HV2.out)).mono ?_
                  rintro e v4 ⟨p4, rfl, hp4, hb4⟩
                  obtain ⟨q4, s4, rfl⟩ := Raw.slice hp4
                  have HV4 := Lib.hid (HV2.out.trans (hb4.mono HV2.out.size))
                  have HN4 := Lib.hid (Raw.apart (F' := []) hp4 (by simp))
                  have HN4x := Lib.hid (Raw.below HN2x.out hb4)
                  have HN4y := Lib.hid (Raw.below HN2.out hb4)
                  clear hp4 hb4
                  go_wp2
                  refine Txt.SegPost.mk Txt.Ty.Shown.none ?_
                  have kz := run_str HN4.out 22 5 9 Try.underlying22 Try.underlying5 Try.underlying9
                  (try simp only [Txt.pick, List.getElem?_cons_succ, List.getElem?_cons_zero])
                  go_wp2
                  refine Txt.RunPost.mk ?_
                  refine Txt.Ty.wpTr_alt ?_ Txt.Ty.wpTr_no
                  (try simp only [Txt.pick, List.getElem?_cons_succ, List.getElem?_cons_zero])
                  have ky := run_str HN4y.out 22 5 9 Try.underlying22 Try.underlying5 Try.underlying9
                  go_wp2
                  refine Txt.SegPost.mk Txt.Ty.Shown.none ?_
                  (try simp only [Txt.pick, List.getElem?_cons_succ, List.getElem?_cons_zero])
                  go_wp2
                  refine Txt.RunPost.mk ?_
                  refine Txt.Ty.wpTr_done (by rfl) trivial ?_
                  go_wp2
                  go_meet
                  case rel => exact ⟨rfl, rfl, rfl, HV4.out⟩
              · skip
                refine Txt.Ty.wpTr_alt ?_ Txt.Ty.wpTr_no
                (try simp only [Txt.pick, List.getElem?_cons_succ, List.getElem?_cons_zero])
                go_wp2_with fail
                refine (page_any (F := []) _ b k _ (by omega) (by omega) (Raw.below HBr.out HV1.out)).mono ?_
                rintro e v5 ⟨p5, rfl, hp5, hb5⟩
                obtain ⟨q5, s5, rfl⟩ := Raw.slice hp5
                have HV5 := Lib.hid (HV1.out.trans (hb5.mono HV1.out.size))
                have HN5 := Lib.hid (Raw.apart (F' := []) hp5 (by simp))
                have HN5x := Lib.hid (Raw.below HN1.out hb5)
                clear hp5 hb5
                go_wp2
                refine Txt.SegPost.mk Txt.Ty.Shown.none ?_
                (try simp only [Txt.pick, List.getElem?_cons_succ, List.getElem?_cons_zero])
                go_wp2
                refine Txt.RunPost.mk ?_
                refine Txt.Ty.wpTr_alt ?_ ?_
                · skip
                  (try simp only [Txt.pick, List.getElem?_cons_succ, List.getElem?_cons_zero])
                  have kx := run_str HN5x.out 22 5 9 Try.underlying22 Try.underlying5 Try.underlying9
                  go_wp2
                  refine Txt.SegPost.mk Txt.Ty.Shown.none ?_
                  (try simp only [Txt.pick, List.getElem?_cons_succ, List.getElem?_cons_zero])
                  go_wp2
                  refine Txt.RunPost.mk ?_
                  refine Txt.Ty.wpTr_alt ?_ ?_
                  · skip
                    (try simp only [Txt.pick, List.getElem?_cons_succ, List.getElem?_cons_zero])
                    have ky := run_str HN5.out 22 5 9 Try.underlying22 Try.underlying5 Try.underlying9
                    go_wp2
                    refine Txt.SegPost.mk Txt.Ty.Shown.none ?_
                    (try simp only [Txt.pick, List.getElem?_cons_succ, List.getElem?_cons_zero])
                    go_wp2
                    refine Txt.RunPost.mk ?_
                    refine Txt.Ty.wpTr_alt ?_ Txt.Ty.wpTr_no
                    (try simp only [Txt.pick, List.getElem?_cons_succ, List.getElem?_cons_zero])
                    go_wp2_with fail
                    refine (page_any (F := []) _ W k _ (by have := HWl.out; omega) (by omega) (Raw.below HWr.out HV5.out)).mono ?_
                    rintro e v6 ⟨p6, rfl, hp6, hb6⟩
                    obtain ⟨q6, s6, rfl⟩ := Raw.slice hp6
                    have HV6 := Lib.hid (HV5.out.trans (hb6.mono HV5.out.size))
                    have HN6 := Lib.hid (Raw.apart (F' := []) hp6 (by simp))
                    have HN6x := Lib.hid (Raw.below HN5x.out hb6)
                    have HN6y := Lib.hid (Raw.below HN5.out hb6)
                    clear hp6 hb6
                    go_wp2
                    refine Txt.SegPost.mk Txt.Ty.Shown.none ?_
                    have kz := run_str HN6.out 22 5 9 Try.underlying22 Try.underlying5 Try.underlying9
                    (try simp only [Txt.pick, List.getElem?_cons_succ, List.getElem?_cons_zero])
                    go_wp2
                    refine Txt.RunPost.mk ?_
                    refine Txt.Ty.wpTr_done (by rfl) trivial ?_
                    go_wp2
                    go_meet
                    case rel => exact ⟨rfl, rfl, rfl, HV6.out⟩
                  · skip
                    refine Txt.Ty.wpTr_alt ?_ Txt.Ty.wpTr_no
                    (try simp only [Txt.pick, List.getElem?_cons_succ, List.getElem?_cons_zero])
                    go_wp2_with fail
                    refine (page_any (F := []) _ W k _ (by have := HWl.out; omega) (by omega) (Raw.below HWr.out HV5.out)).mono ?_
                    rintro e v7 ⟨p7, rfl, hp7, hb7⟩
                    obtain ⟨q7, s7, rfl⟩ := Raw.slice hp7
                    have HV7 := Lib.hid (HV5.out.trans (hb7.mono HV5.out.size))
                    have HN7 := Lib.hid (Raw.apart (F' := []) hp7 (by simp))
                    have HN7x := Lib.hid (Raw.below HN5x.out hb7)
                    have HN7y := Lib.hid (Raw.below HN5.out hb7)
                    clear hp7 hb7
                    go_wp2
                    refine Txt.SegPost.mk Txt.Ty.Shown.none ?_
                    have kz := run_str HN7.out 22 5 9 Try.underlying22 Try.underlying5 Try.underlying9
                    (try simp only [Txt.pick, List.getElem?_cons_succ, List.getElem?_cons_zero])
                    go_wp2
                    refine Txt.RunPost.mk ?_
                    refine Txt.Ty.wpTr_alt ?_ Txt.Ty.wpTr_no
                    (try simp only [Txt.pick, List.getElem?_cons_succ, List.getElem?_cons_zero])
                    have ky := run_str HN7y.out 22 5 9 Try.underlying22 Try.underlying5 Try.underlying9
                    go_wp2
                    refine Txt.SegPost.mk Txt.Ty.Shown.none ?_
                    (try simp only [Txt.pick, List.getElem?_cons_succ, List.getElem?_cons_zero])
                    go_wp2
                    refine Txt.RunPost.mk ?_
                    refine Txt.Ty.wpTr_done (by rfl) trivial ?_
                    go_wp2
                    go_meet
                    case rel => exact ⟨rfl, rfl, rfl, HV7.out⟩
                · skip
                  refine Txt.Ty.wpTr_alt ?_ ?_
                  · skip
                    (try simp only [Txt.pick, List.getElem?_cons_succ, List.getElem?_cons_zero])
                    have ky := run_str HN5.out 22 5 9 Try.underlying22 Try.underlying5 Try.underlying9
                    go_wp2
                    refine Txt.SegPost.mk Txt.Ty.Shown.none ?_
                    (try simp only [Txt.pick, List.getElem?_cons_succ, List.getElem?_cons_zero])
                    go_wp2
                    refine Txt.RunPost.mk ?_
                    refine Txt.Ty.wpTr_alt ?_ ?_
                    · skip
                      (try simp only [Txt.pick, List.getElem?_cons_succ, List.getElem?_cons_zero])
                      have kx := run_str HN5x.out 22 5 9 Try.underlying22 Try.underlying5 Try.underlying9
                      go_wp2
                      refine Txt.SegPost.mk Txt.Ty.Shown.none ?_
                      (try simp only [Txt.pick, List.getElem?_cons_succ, List.getElem?_cons_zero])
                      go_wp2
                      refine Txt.RunPost.mk ?_
                      refine Txt.Ty.wpTr_alt ?_ Txt.Ty.wpTr_no
                      (try simp only [Txt.pick, List.getElem?_cons_succ, List.getElem?_cons_zero])
                      go_wp2_with fail
                      refine (page_any (F := []) _ W k _ (by have := HWl.out; omega) (by omega) (Raw.below HWr.out HV5.out)).mono ?_
                      rintro e v8 ⟨p8, rfl, hp8, hb8⟩
                      obtain ⟨q8, s8, rfl⟩ := Raw.slice hp8
                      have HV8 := Lib.hid (HV5.out.trans (hb8.mono HV5.out.size))
                      have HN8 := Lib.hid (Raw.apart (F' := []) hp8 (by simp))
                      have HN8x := Lib.hid (Raw.below HN5x.out hb8)
                      have HN8y := Lib.hid (Raw.below HN5.out hb8)
                      clear hp8 hb8
                      go_wp2
                      refine Txt.SegPost.mk Txt.Ty.Shown.none ?_
                      have kz := run_str HN8.out 22 5 9 Try.underlying22 Try.underlying5 Try.underlying9
                      (try simp only [Txt.pick, List.getElem?_cons_succ, List.getElem?_cons_zero])
                      go_wp2
                      refine Txt.RunPost.mk ?_
                      refine Txt.Ty.wpTr_done (by rfl) trivial ?_
                      go_wp2
                      go_meet
                      case rel => exact ⟨rfl, rfl, rfl, HV8.out⟩
                    · skip
                      refine Txt.Ty.wpTr_alt ?_ Txt.Ty.wpTr_no
                      (try simp only [Txt.pick, List.getElem?_cons_succ, List.getElem?_cons_zero])
                      go_wp2_with fail
                      refine (page_any (F := []) _ W k _ (by have := HWl.out; omega) (by omega) (Raw.below HWr.out HV5.out)).mono ?_
                      rintro e v9 ⟨p9, rfl, hp9, hb9⟩
                      obtain ⟨q9, s9, rfl⟩ := Raw.slice hp9
                      have HV9 := Lib.hid (HV5.out.trans (hb9.mono HV5.out.size))
                      have HN9 := Lib.hid (Raw.apart (F' := []) hp9 (by simp))
                      have HN9x := Lib.hid (Raw.below HN5x.out hb9)
                      have HN9y := Lib.hid (Raw.below HN5.out hb9)
                      clear hp9 hb9
                      go_wp2
                      refine Txt.SegPost.mk Txt.Ty.Shown.none ?_
                      have kz := run_str HN9.out 22 5 9 Try.underlying22 Try.underlying5 Try.underlying9
                      (try simp only [Txt.pick, List.getElem?_cons_succ, List.getElem?_cons_zero])
                      go_wp2
                      refine Txt.RunPost.mk ?_
                      refine Txt.Ty.wpTr_alt ?_ Txt.Ty.wpTr_no
                      (try simp only [Txt.pick, List.getElem?_cons_succ, List.getElem?_cons_zero])
                      have kx := run_str HN9x.out 22 5 9 Try.underlying22 Try.underlying5 Try.underlying9
                      go_wp2
                      refine Txt.SegPost.mk Txt.Ty.Shown.none ?_
                      (try simp only [Txt.pick, List.getElem?_cons_succ, List.getElem?_cons_zero])
                      go_wp2
                      refine Txt.RunPost.mk ?_
                      refine Txt.Ty.wpTr_done (by rfl) trivial ?_
                      go_wp2
                      go_meet
                      case rel => exact ⟨rfl, rfl, rfl, HV9.out⟩
                  · skip
                    refine Txt.Ty.wpTr_alt ?_ Txt.Ty.wpTr_no
                    (try simp only [Txt.pick, List.getElem?_cons_succ, List.getElem?_cons_zero])
                    go_wp2_with fail
                    refine (page_any (F := []) _ W k _ (by have := HWl.out; omega) (by omega) (Raw.below HWr.out HV5.out)).mono ?_
                    rintro e v10 ⟨p10, rfl, hp10, hb10⟩
                    obtain ⟨q10, s10, rfl⟩ := Raw.slice hp10
                    have HV10 := Lib.hid (HV5.out.trans (hb10.mono HV5.out.size))
                    have HN10 := Lib.hid (Raw.apart (F' := []) hp10 (by simp))
                    have HN10x := Lib.hid (Raw.below HN5x.out hb10)
                    have HN10y := Lib.hid (Raw.below HN5.out hb10)
                    clear hp10 hb10
                    go_wp2
                    refine Txt.SegPost.mk Txt.Ty.Shown.none ?_
                    have kz := run_str HN10.out 22 5 9 Try.underlying22 Try.underlying5 Try.underlying9
                    (try simp only [Txt.pick, List.getElem?_cons_succ, List.getElem?_cons_zero])
                    go_wp2
                    refine Txt.RunPost.mk ?_
                    refine Txt.Ty.wpTr_alt ?_ ?_
                    · skip
                      (try simp only [Txt.pick, List.getElem?_cons_succ, List.getElem?_cons_zero])
                      have kx := run_str HN10x.out 22 5 9 Try.underlying22 Try.underlying5 Try.underlying9
                      go_wp2
                      refine Txt.SegPost.mk Txt.Ty.Shown.none ?_
                      (try simp only [Txt.pick, List.getElem?_cons_succ, List.getElem?_cons_zero])
                      go_wp2
                      refine Txt.RunPost.mk ?_
                      refine Txt.Ty.wpTr_alt ?_ Txt.Ty.wpTr_no
                      (try simp only [Txt.pick, List.getElem?_cons_succ, List.getElem?_cons_zero])
                      have ky := run_str HN10y.out 22 5 9 Try.underlying22 Try.underlying5 Try.underlying9
                      go_wp2
                      refine Txt.SegPost.mk Txt.Ty.Shown.none ?_
                      (try simp only [Txt.pick, List.getElem?_cons_succ, List.getElem?_cons_zero])
                      go_wp2
                      refine Txt.RunPost.mk ?_
                      refine Txt.Ty.wpTr_done (by rfl) trivial ?_
                      go_wp2
                      go_meet
                      case rel => exact ⟨rfl, rfl, rfl, HV10.out⟩
                    · skip
                      refine Txt.Ty.wpTr_alt ?_ Txt.Ty.wpTr_no
                      (try simp only [Txt.pick, List.getElem?_cons_succ, List.getElem?_cons_zero])
                      have ky := run_str HN10y.out 22 5 9 Try.underlying22 Try.underlying5 Try.underlying9
                      go_wp2
                      refine Txt.SegPost.mk Txt.Ty.Shown.none ?_
                      (try simp only [Txt.pick, List.getElem?_cons_succ, List.getElem?_cons_zero])
                      go_wp2
                      refine Txt.RunPost.mk ?_
                      refine Txt.Ty.wpTr_alt ?_ Txt.Ty.wpTr_no
                      (try simp only [Txt.pick, List.getElem?_cons_succ, List.getElem?_cons_zero])
                      have kx := run_str HN10x.out 22 5 9 Try.underlying22 Try.underlying5 Try.underlying9
                      go_wp2
                      refine Txt.SegPost.mk Txt.Ty.Shown.none ?_
                      (try simp only [Txt.pick, List.getElem?_cons_succ, List.getElem?_cons_zero])
                      go_wp2
                      refine Txt.RunPost.mk ?_
                      refine Txt.Ty.wpTr_done (by rfl) trivial ?_
                      go_wp2
                      go_meet
                      case rel => exact ⟨rfl, rfl, rfl, HV10.out⟩
            case rest =>
              obtain ⟨rfl, rfl, rfl, hbw⟩ := hcut
              have HBW := Lib.hid hbw
              clear hbw
              have hsucc : (difK a b (k + 1)).length = if pg a k = pg b k then D else D + 1 := by
                rw [difK_succ, HD.out]; split <;> simp
              have HSu := Lib.hid hsucc
              have hkb : k < cnt b.length := by rw [← HCn.out]; exact hlt
              obtain ⟨p1, p2, p3⟩ := wk_pg (a := a) (b := b) (k := M + 1) (i := k) (by rw [← HZ.out]; omega) hkb
              rw [← HD.out, ← HZ.out, ← HWe.out] at p2 p3
              rw [← HWe.out] at p1
              obtain ⟨X, hX⟩ : ∃ X, X = strOf (pg a k) := ⟨_, rfl⟩
              obtain ⟨Y, hY⟩ : ∃ Y, Y = strOf (pg b k) := ⟨_, rfl⟩
              obtain ⟨V, hV⟩ : ∃ V, V = strOf (pg W k) := ⟨_, rfl⟩
              have sxy : (X.toList == Y.toList) = decide (pg a k = pg b k) := by rw [hX, hY, strOf_eq]
              have svy : (V.toList == Y.toList) = decide (pg W k = pg b k) := by rw [hV, hY, strOf_eq]
              have svx : (V.toList == X.toList) = decide (pg W k = pg a k) := by rw [hV, hX, strOf_eq]
              have lx : X.size = (pg a k).length := by rw [hX]; simp [strOf, ByteArray.size]
              have ly : Y.size = (pg b k).length := by rw [hY]; simp [strOf, ByteArray.size]
              rw [← hX, ← hY, ← hV]
              clear hX hY hV hsucc
              by_cases hd : pg a k = pg b k
              · have hvy := p1 hd
                rw [decide_eq_true hd] at sxy
                rw [decide_eq_true hvy] at svy
                have hS := HSu.out
                rw [if_pos hd] at hS
                have HS2 := Lib.hid hS
                clear p1 p2 p3 hd hvy svx lx ly hS
                go_wp2
                go_roundw
                case rel => exact ⟨k + 1, dd, by omega, by (rw [HS2.out, HDD.out]; try omega), by go_num, by go_num, HBW.out⟩
                case measure => simp [intOf]; omega
              · rw [decide_eq_false hd] at sxy
                have hS := HSu.out
                rw [if_neg hd] at hS
                have HS2 := Lib.hid hS
                by_cases hle : D + 1 + 1 ≤ M + 1
                · have hvy := p2 hd hle
                  rw [decide_eq_true hvy] at svy
                  have hlei : (dd : Int) + 1 ≤ 1 + (M : Int) := by have := HDD.out; omega
                  clear p1 p2 p3 hd hvy svx lx ly hS hle
                  go_wp2
                  go_roundw
                  case rel => exact ⟨k + 1, dd + 1, by omega, by (rw [HS2.out, HDD.out]; try omega), by go_num, by go_num, HBW.out⟩
                  case measure => simp [intOf]; omega
                · have hlei : 1 + (M : Int) < (dd : Int) + 1 := by have := HDD.out; omega
                  by_cases hll : (pg a k).length = (pg b k).length
                  · have hvx := p3 hd (by omega) hll
                    rw [decide_eq_true hvx] at svx
                    rw [hll] at lx
                    clear p1 p2 p3 hd hvx svy hS hle hll
                    go_wp2
                    go_roundw
                    case rel => exact ⟨k + 1, dd + 1, by omega, by (rw [HS2.out, HDD.out]; try omega), by go_num, by go_num, HBW.out⟩
                    case measure => simp [intOf]; omega
                  · have hlf : (((pg a k).length : Int) == ((pg b k).length : Int)) = false := by simp; omega
                    clear p1 p2 p3 hd svx svy hS hle hll
                    go_wp2
                    go_roundw
                    case rel => exact ⟨k + 1, dd + 1, by omega, by (rw [HS2.out, HDD.out]; try omega), by go_num, by go_num, HBW.out⟩
                    case measure => simp [intOf]; omega
          · obtain rfl : k = Cn := by omega
            go_wp2_with fail
            refine (HCnt.out _).mono ?_
            rintro e w' ⟨rfl, rfl⟩
            go_wp2
            go_ret
            exact ⟨rfl, HB1.out.trans ((HL15.out.1.trans (HR0.out.mono HL15.out.1.size)).mono HB1.out.size)⟩
end Go.Proofs.Ytnbngidelpodkaa
