/- time: TimeLocal -/
import Derived.Test.YtdelemmoiaiooaaVd
import Derived.Deep.CutRange
namespace Go.Proofs.Ytdelemmoiaiooaa
open Go.RowKit Go.Bs Go.Cl Go.Rw Go.Ti Go.Wi
set_option maxRecDepth 100000 in
set_option maxHeartbeats 8000000 in
theorem local_any (lv kv : Value) (l k : List Int) (ms md mk mq m0 m1 m2 m3 : Int) (da : Option Addr) (dc : Nat) (d : List UInt8) (w : World) (hL : SlT w lv l) (hK : SlT w kv k) :
    Calls Try.prog 7 #[.agg #[lv], .agg #[kv], .agg #[.int .i64 ms, .int .i64 md, .int .i64 mk, .int .i64 mq, .int .i64 m0, .int .i64 m1, .int .i64 m2, .int .i64 m3, .slice da d.length dc]] w (RetOK w) := by
  obtain ⟨la, lc, rfl⟩ := Raw.slice hL
  obtain ⟨ka, kc, rfl⟩ := Raw.slice hK
  obtain ⟨w1, hw1⟩ : ∃ W, W = ((w.alloc (.cells #[.slice la l.length lc] 24)).alloc (.cells #[.slice ka k.length kc] 24)).alloc (.cells #[.int .i64 ms, .int .i64 md, .int .i64 mk, .int .i64 mq, .int .i64 m0, .int .i64 m1, .int .i64 m2, .int .i64 m3, .slice da d.length dc] 28) := ⟨_, rfl⟩
  have bel1 : Below w.heap.size w w1 := by rw [hw1]; exact (((Below.refl w.heap.size w).alloc (by simp) _).alloc (by simp) _).alloc (by simp; omega) _
  have hx0 : w1.heap[w.heap.size]? = some (.cells #[.slice la l.length lc] 24 (0, 0)) := by rw [hw1]; exact a3_0 _ _ _ _ _ _ _
  obtain ⟨X, hX⟩ : ∃ M, M = w.heap.size := ⟨_, rfl⟩
  rw [← hX] at hx0
  have HX1 := Lib.hid (hx0)
  have hx1 : w1.heap[w.heap.size + 1]? = some (.cells #[.slice ka k.length kc] 24 (0, 0)) := by rw [hw1]; exact a3_1 _ _ _ _ _ _ _
  obtain ⟨Y, hY⟩ : ∃ M, M = w.heap.size + 1 := ⟨_, rfl⟩
  rw [← hY] at hx1
  have HY1 := Lib.hid (hx1)
  have hx2 : w1.heap[w.heap.size + 2]? = some (.cells #[.int .i64 ms, .int .i64 md, .int .i64 mk, .int .i64 mq, .int .i64 m0, .int .i64 m1, .int .i64 m2, .int .i64 m3, .slice da d.length dc] 28 (0, 0)) := by rw [hw1]; exact a3_2 _ _ _ _ _ _ _
  obtain ⟨M, hM⟩ : ∃ M, M = w.heap.size + 2 := ⟨_, rfl⟩
  rw [← hM] at hx2
  have HM1 := Lib.hid (hx2)
  have HRX := Lib.hid hX
  have HRY : Hid (Y = X + 1) := Lib.hid (by omega)
  have HRM : Hid (M = X + 1 + 1) := Lib.hid (by omega)
  have HW := Lib.hid hw1
  clear hw1 hx0 hx1 hx2 hX hY hM
  have hL1 := hL.below bel1
  have HL1 := Lib.hid (hL1)
  clear hL hL1
  have hK1 := hK.below bel1
  have HK1 := Lib.hid (hK1)
  clear hK hK1
  go_enter Try.func7, Try.ntmps7
  go_upto_region 1 with (fail)
  rw [← HW.out, ← HRX.out, ← HRM.out, ← HRY.out]
  clear HW HRX HRY HRM
  go_wp2_with fail
  refine (awake_any _).mono ?_
  rintro e w2 ⟨rfl, hb2⟩
  have HX2 := Lib.hid ((hb2.block X (Array.getElem?_eq_some_iff.1 HX1.out).1).trans HX1.out)
  have HY2 := Lib.hid ((hb2.block Y (Array.getElem?_eq_some_iff.1 HY1.out).1).trans HY1.out)
  have HM2 := Lib.hid ((hb2.block M (Array.getElem?_eq_some_iff.1 HM1.out).1).trans HM1.out)
  have HL2 := Lib.hid (SlT.below HL1.out hb2)
  have HK2 := Lib.hid (SlT.below HK1.out hb2)
  clear HX1 HY1 HM1 HL1 HK1
  have bel2 := bel1.trans (hb2.mono bel1.size)
  have cX_0 := box_at HX2.out (j := 0) rfl
  have cY_0 := box_at HY2.out (j := 0) rfl
  have cM_0 := box_at HM2.out (j := 0) rfl
  have cM_1 := box_at HM2.out (j := 1) rfl
  have cM_2 := box_at HM2.out (j := 2) rfl
  have cM_3 := box_at HM2.out (j := 3) rfl
  have cM_4 := box_at HM2.out (j := 4) rfl
  have cM_5 := box_at HM2.out (j := 5) rfl
  have cM_6 := box_at HM2.out (j := 6) rfl
  have cM_7 := box_at HM2.out (j := 7) rfl
  have cM_8 := box_at HM2.out (j := 8) rfl
  obtain ⟨tk, htk⟩ : ∃ tk, tkT ⟨ms, md, mk, mq, m0, m1, m2, m3⟩ = tk := ⟨_, rfl⟩
  have HTK := Lib.hid htk
  unfold tkT at htk
  simp only at htk
  go_upto_region 4 with (fail)
  obtain ⟨B, hB⟩ : ∃ B, decide (mk = 4 ∨ mk = 16) = B := ⟨_, rfl⟩
  have HB := Lib.hid hB
  clear hB
  have HTK2 := Lib.hid htk
  clear htk
  go_cut [29] from 22 to 28 (fun a wx => a = .bool B ∧ wx = w2)
  case first =>
    by_cases h4 : mk = 4
    · have e4 : (mk == 4) = true := by simp [h4]
      go_wp2
      go_meet
      case rel => exact ⟨by rw [← HB.out]; simp [h4], rfl⟩
    · have e4 : (mk == 4) = false := by simp [h4]
      by_cases h16 : mk = 16
      · have e16 : (mk == 16) = true := by simp [h16]
        go_wp2
        go_meet
        case rel => exact ⟨by rw [← HB.out]; simp [h16], rfl⟩
      · have e16 : (mk == 16) = false := by simp [h16]
        go_wp2
        go_meet
        case rel => exact ⟨by rw [← HB.out]; simp [h4, h16], rfl⟩
  case rest =>
  obtain ⟨rfl, hw⟩ := hcut
  rw [hw]
  clear hw wc
  go_upto_if 29 with (fail)
  go_cut [7] from 30 to 32 (fun a wx => a = .int .i64 tk ∧ wx = w2)
  case first =>
    cases B with
    | true =>
      have hm0 : m0 = tk := by rw [← HTK2.out, if_pos (of_decide_eq_true HB.out)]
      have HM0 := Lib.hid hm0
      clear hm0
      go_wp2
      go_meet
      case rel => exact ⟨by rw [HM0.out], rfl⟩
    | false =>
      have hm0 : ms = tk := by rw [← HTK2.out, if_neg (of_decide_eq_false HB.out)]
      have HM0 := Lib.hid hm0
      clear hm0
      go_wp2
      go_meet
      case rel => exact ⟨by rw [HM0.out], rfl⟩
  case rest =>
    obtain ⟨rfl, hw⟩ := hcut
    rw [hw]
    clear hw wc
    clear cX_0 cY_0 cM_0 cM_1 cM_2 cM_3 cM_4 cM_5 cM_6 cM_7 cM_8
    have cX_0 := box_at HX2.out (j := 0) rfl
    have cY_0 := box_at HY2.out (j := 0) rfl
    have cM_0 := box_at HM2.out (j := 0) rfl
    have cM_1 := box_at HM2.out (j := 1) rfl
    have cM_2 := box_at HM2.out (j := 2) rfl
    have cM_3 := box_at HM2.out (j := 3) rfl
    have cM_4 := box_at HM2.out (j := 4) rfl
    have cM_5 := box_at HM2.out (j := 5) rfl
    have cM_6 := box_at HM2.out (j := 6) rfl
    have cM_7 := box_at HM2.out (j := 7) rfl
    have cM_8 := box_at HM2.out (j := 8) rfl
    go_upto_region 6 with (fail)
    have HBL2 : Hid (∀ q ∈ [X, Y], ∃ cc e f, w2.heap[q]? = some (.cells cc e f)) := Lib.hid (by
      intro q hq
      simp only [List.mem_cons, List.not_mem_nil, or_false] at hq
      rcases hq with rfl | rfl <;> first | exact ⟨_, _, _, HX2.out⟩ | exact ⟨_, _, _, HY2.out⟩)
    have hBl := show ∀ q ∈ [X, Y], ∃ cc e f, w2.heap[q]? = some (.cells cc e f) from HBL2.out
    clear HBL2
    refine Txt.Ty.wp_tree [X, Y] [30] [] [1, 6, 12, 17, 22, 27, 30] [0, 1, 2, 3, 4, 5, 6, 7, 8, 9, 10, 11, 12, 13, 14, 15, 16, 17] (.alt [18, 19, 20, 21, 22] (.alt [23, 24, 25, 26, 27, 28, 30, 31] (.alt [29] (.alt [32, 33, 34] (.done) (.no)) (.no)) (.no)) (.no)) (by kernel_rfl) (by kernel_rfl) (by kernel_rfl) (by kernel_rfl) hBl ?_
    obtain ⟨w3, hwd⟩ : ∃ y, y = w2.drew := ⟨_, rfl⟩
    have HS3 : Hid (Txt.SameB [X, Y] w3 w3) := Lib.hid (by rw [hwd]; exact same_start hBl)
    clear hBl
    rw [← hwd]
    have hdr : Below w2.heap.size w2 w3 := by rw [hwd]; exact (Below.refl _ _).drew
    clear cX_0 cY_0 cM_0 cM_1 cM_2 cM_3 cM_4 cM_5 cM_6 cM_7 cM_8
    have HX3 := Lib.hid ((hdr.block X (Array.getElem?_eq_some_iff.1 HX2.out).1).trans HX2.out)
    have HY3 := Lib.hid ((hdr.block Y (Array.getElem?_eq_some_iff.1 HY2.out).1).trans HY2.out)
    have HM3 := Lib.hid ((hdr.block M (Array.getElem?_eq_some_iff.1 HM2.out).1).trans HM2.out)
    have HL3 := Lib.hid (SlT.below HL2.out hdr)
    have HK3 := Lib.hid (SlT.below HK2.out hdr)
    clear HX2 HY2 HM2 HL2 HK2
    have bel3 := bel2.trans (hdr.mono bel2.size)
    clear hdr hwd
    have cX_0 := box_at HX3.out (j := 0) rfl
    have cY_0 := box_at HY3.out (j := 0) rfl
    have cM_0 := box_at HM3.out (j := 0) rfl
    have cM_1 := box_at HM3.out (j := 1) rfl
    have cM_2 := box_at HM3.out (j := 2) rfl
    have cM_3 := box_at HM3.out (j := 3) rfl
    have cM_4 := box_at HM3.out (j := 4) rfl
    have cM_5 := box_at HM3.out (j := 5) rfl
    have cM_6 := box_at HM3.out (j := 6) rfl
    have cM_7 := box_at HM3.out (j := 7) rfl
    have cM_8 := box_at HM3.out (j := 8) rfl
    (try simp only [Txt.pick, List.getElem?_cons_succ, List.getElem?_cons_zero])
    by_cases hcl : l.length ≤ 60
    rotate_left
    · have hcl' : (60 : Int) < (l.length : Int) := by omega
      go_wp2
      refine Txt.RunPost.mk ?_
      refine Txt.Ty.wpTr_alt ?_ Txt.Ty.wpTr_no
      (try simp only [Txt.pick, List.getElem?_cons_succ, List.getElem?_cons_zero])
      go_wp2
      refine Txt.SegPost.mk (Txt.Ty.Shown.same HS3.out) ?_
      (try simp only [Txt.pick, List.getElem?_cons_succ, List.getElem?_cons_zero])
      go_wp2
      refine Txt.RunPost.mk ?_
      refine Txt.Ty.wpTr_alt ?_ Txt.Ty.wpTr_no
      (try simp only [Txt.pick, List.getElem?_cons_succ, List.getElem?_cons_zero])
      go_wp2
      refine Txt.SegPost.mk (Txt.Ty.Shown.same HS3.out) ?_
      (try simp only [Txt.pick, List.getElem?_cons_succ, List.getElem?_cons_zero])
      go_wp2
      refine Txt.RunPost.mk ?_
      refine Txt.Ty.wpTr_alt ?_ Txt.Ty.wpTr_no
      (try simp only [Txt.pick, List.getElem?_cons_succ, List.getElem?_cons_zero])
      go_wp2
      refine Txt.SegPost.mk (Txt.Ty.Shown.same HS3.out) ?_
      (try simp only [Txt.pick, List.getElem?_cons_succ, List.getElem?_cons_zero])
      go_wp2
      refine Txt.RunPost.mk ?_
      refine Txt.Ty.wpTr_alt ?_ Txt.Ty.wpTr_no
      (try simp only [Txt.pick, List.getElem?_cons_succ, List.getElem?_cons_zero])
      go_wp2
      refine Txt.SegPost.mk (Txt.Ty.Shown.same HS3.out) ?_
      (try simp only [Txt.pick, List.getElem?_cons_succ, List.getElem?_cons_zero])
      go_wp2
      refine Txt.RunPost.mk ?_
      refine Txt.Ty.wpTr_done (by rfl) ⟨.tail _ (.head _), trivial⟩ ?_
      go_wp2
      go_ret
      exact ⟨rfl, bel3⟩
    by_cases hck : k.length ≤ 60
    rotate_left
    · have hck' : (60 : Int) < (k.length : Int) := by omega
      go_wp2
      refine Txt.RunPost.mk ?_
      refine Txt.Ty.wpTr_alt ?_ Txt.Ty.wpTr_no
      (try simp only [Txt.pick, List.getElem?_cons_succ, List.getElem?_cons_zero])
      go_wp2
      refine Txt.SegPost.mk (Txt.Ty.Shown.same HS3.out) ?_
      (try simp only [Txt.pick, List.getElem?_cons_succ, List.getElem?_cons_zero])
      go_wp2
      refine Txt.RunPost.mk ?_
      refine Txt.Ty.wpTr_alt ?_ Txt.Ty.wpTr_no
      (try simp only [Txt.pick, List.getElem?_cons_succ, List.getElem?_cons_zero])
      go_wp2
      refine Txt.SegPost.mk (Txt.Ty.Shown.same HS3.out) ?_
      (try simp only [Txt.pick, List.getElem?_cons_succ, List.getElem?_cons_zero])
      go_wp2
      refine Txt.RunPost.mk ?_
      refine Txt.Ty.wpTr_alt ?_ Txt.Ty.wpTr_no
      (try simp only [Txt.pick, List.getElem?_cons_succ, List.getElem?_cons_zero])
      go_wp2
      refine Txt.SegPost.mk (Txt.Ty.Shown.same HS3.out) ?_
      (try simp only [Txt.pick, List.getElem?_cons_succ, List.getElem?_cons_zero])
      go_wp2
      refine Txt.RunPost.mk ?_
      refine Txt.Ty.wpTr_alt ?_ Txt.Ty.wpTr_no
      (try simp only [Txt.pick, List.getElem?_cons_succ, List.getElem?_cons_zero])
      go_wp2
      refine Txt.SegPost.mk (Txt.Ty.Shown.same HS3.out) ?_
      (try simp only [Txt.pick, List.getElem?_cons_succ, List.getElem?_cons_zero])
      go_wp2
      refine Txt.RunPost.mk ?_
      refine Txt.Ty.wpTr_done (by rfl) ⟨.tail _ (.head _), trivial⟩ ?_
      go_wp2
      go_ret
      exact ⟨rfl, bel3⟩
    by_cases hcd : d.length ≤ 1600
    rotate_left
    · have hcd' : (1600 : Int) < (d.length : Int) := by omega
      go_wp2
      refine Txt.RunPost.mk ?_
      refine Txt.Ty.wpTr_alt ?_ Txt.Ty.wpTr_no
      (try simp only [Txt.pick, List.getElem?_cons_succ, List.getElem?_cons_zero])
      go_wp2
      refine Txt.SegPost.mk (Txt.Ty.Shown.same HS3.out) ?_
      (try simp only [Txt.pick, List.getElem?_cons_succ, List.getElem?_cons_zero])
      go_wp2
      refine Txt.RunPost.mk ?_
      refine Txt.Ty.wpTr_alt ?_ Txt.Ty.wpTr_no
      (try simp only [Txt.pick, List.getElem?_cons_succ, List.getElem?_cons_zero])
      go_wp2
      refine Txt.SegPost.mk (Txt.Ty.Shown.same HS3.out) ?_
      (try simp only [Txt.pick, List.getElem?_cons_succ, List.getElem?_cons_zero])
      go_wp2
      refine Txt.RunPost.mk ?_
      refine Txt.Ty.wpTr_alt ?_ Txt.Ty.wpTr_no
      (try simp only [Txt.pick, List.getElem?_cons_succ, List.getElem?_cons_zero])
      go_wp2
      refine Txt.SegPost.mk (Txt.Ty.Shown.same HS3.out) ?_
      (try simp only [Txt.pick, List.getElem?_cons_succ, List.getElem?_cons_zero])
      go_wp2
      refine Txt.RunPost.mk ?_
      refine Txt.Ty.wpTr_alt ?_ Txt.Ty.wpTr_no
      (try simp only [Txt.pick, List.getElem?_cons_succ, List.getElem?_cons_zero])
      go_wp2
      refine Txt.SegPost.mk (Txt.Ty.Shown.same HS3.out) ?_
      (try simp only [Txt.pick, List.getElem?_cons_succ, List.getElem?_cons_zero])
      go_wp2
      refine Txt.RunPost.mk ?_
      refine Txt.Ty.wpTr_done (by rfl) ⟨.tail _ (.head _), trivial⟩ ?_
      go_wp2
      go_ret
      exact ⟨rfl, bel3⟩
    have Hcl := Lib.hid hcl
    have Hck := Lib.hid hck
    have hpl : (l.length : Int) ≤ 60 := by omega
    have hpk : (k.length : Int) ≤ 60 := by omega
    have hpd : (d.length : Int) ≤ 1600 := by omega
    clear hcl hck hcd
    go_wp2
    refine Txt.RunPost.mk ?_
    refine Txt.Ty.wpTr_alt ?_ Txt.Ty.wpTr_no
    (try simp only [Txt.pick, List.getElem?_cons_succ, List.getElem?_cons_zero])
    go_wp2_with fail
    refine (rvalid_any _ l _ (by have := Hcl.out; omega) HL3.out).mono ?_
    rintro e w4 ⟨rfl, hb4⟩
    clear cX_0 cY_0 cM_0 cM_1 cM_2 cM_3 cM_4 cM_5 cM_6 cM_7 cM_8
    have HX4 := Lib.hid ((hb4.block X (Array.getElem?_eq_some_iff.1 HX3.out).1).trans HX3.out)
    have HY4 := Lib.hid ((hb4.block Y (Array.getElem?_eq_some_iff.1 HY3.out).1).trans HY3.out)
    have HM4 := Lib.hid ((hb4.block M (Array.getElem?_eq_some_iff.1 HM3.out).1).trans HM3.out)
    have HL4 := Lib.hid (SlT.below HL3.out hb4)
    have HK4 := Lib.hid (SlT.below HK3.out hb4)
    clear HX3 HY3 HM3 HL3 HK3
    have bel4 := bel3.trans (hb4.mono bel3.size)
    have HS4 := Lib.hid (same_below' HS3.out hb4)
    obtain ⟨Vl, hVl⟩ : ∃ V, validT l = V := ⟨_, rfl⟩
    rw [hVl]
    have HVl := Lib.hid hVl
    clear hVl
    cases Vl
    · have cX_0 := box_at HX4.out (j := 0) rfl
      have cY_0 := box_at HY4.out (j := 0) rfl
      have cM_0 := box_at HM4.out (j := 0) rfl
      have cM_1 := box_at HM4.out (j := 1) rfl
      have cM_2 := box_at HM4.out (j := 2) rfl
      have cM_3 := box_at HM4.out (j := 3) rfl
      have cM_4 := box_at HM4.out (j := 4) rfl
      have cM_5 := box_at HM4.out (j := 5) rfl
      have cM_6 := box_at HM4.out (j := 6) rfl
      have cM_7 := box_at HM4.out (j := 7) rfl
      have cM_8 := box_at HM4.out (j := 8) rfl
      go_wp2
      refine Txt.SegPost.mk (Txt.Ty.Shown.same HS4.out) ?_
      (try simp only [Txt.pick, List.getElem?_cons_succ, List.getElem?_cons_zero])
      go_wp2
      refine Txt.RunPost.mk ?_
      refine Txt.Ty.wpTr_alt ?_ Txt.Ty.wpTr_no
      (try simp only [Txt.pick, List.getElem?_cons_succ, List.getElem?_cons_zero])
      go_wp2
      refine Txt.SegPost.mk (Txt.Ty.Shown.same HS4.out) ?_
      (try simp only [Txt.pick, List.getElem?_cons_succ, List.getElem?_cons_zero])
      go_wp2
      refine Txt.RunPost.mk ?_
      refine Txt.Ty.wpTr_alt ?_ Txt.Ty.wpTr_no
      (try simp only [Txt.pick, List.getElem?_cons_succ, List.getElem?_cons_zero])
      go_wp2
      refine Txt.SegPost.mk (Txt.Ty.Shown.same HS4.out) ?_
      (try simp only [Txt.pick, List.getElem?_cons_succ, List.getElem?_cons_zero])
      go_wp2
      refine Txt.RunPost.mk ?_
      refine Txt.Ty.wpTr_alt ?_ Txt.Ty.wpTr_no
      (try simp only [Txt.pick, List.getElem?_cons_succ, List.getElem?_cons_zero])
      go_wp2
      refine Txt.SegPost.mk (Txt.Ty.Shown.same HS4.out) ?_
      (try simp only [Txt.pick, List.getElem?_cons_succ, List.getElem?_cons_zero])
      go_wp2
      refine Txt.RunPost.mk ?_
      refine Txt.Ty.wpTr_done (by rfl) ⟨.tail _ (.head _), trivial⟩ ?_
      go_wp2
      go_ret
      exact ⟨rfl, bel4⟩
    have cX_0 := box_at HX4.out (j := 0) rfl
    have cY_0 := box_at HY4.out (j := 0) rfl
    have cM_0 := box_at HM4.out (j := 0) rfl
    have cM_1 := box_at HM4.out (j := 1) rfl
    have cM_2 := box_at HM4.out (j := 2) rfl
    have cM_3 := box_at HM4.out (j := 3) rfl
    have cM_4 := box_at HM4.out (j := 4) rfl
    have cM_5 := box_at HM4.out (j := 5) rfl
    have cM_6 := box_at HM4.out (j := 6) rfl
    have cM_7 := box_at HM4.out (j := 7) rfl
    have cM_8 := box_at HM4.out (j := 8) rfl
    go_wp2
    refine Txt.SegPost.mk (Txt.Ty.Shown.same HS4.out) ?_
    (try simp only [Txt.pick, List.getElem?_cons_succ, List.getElem?_cons_zero])
    go_wp2
    refine Txt.RunPost.mk ?_
    refine Txt.Ty.wpTr_alt ?_ Txt.Ty.wpTr_no
    (try simp only [Txt.pick, List.getElem?_cons_succ, List.getElem?_cons_zero])
    go_wp2_with fail
    refine (rvalid_any _ k _ (by have := Hck.out; omega) HK4.out).mono ?_
    rintro e w5 ⟨rfl, hb5⟩
    clear cX_0 cY_0 cM_0 cM_1 cM_2 cM_3 cM_4 cM_5 cM_6 cM_7 cM_8
    have HX5 := Lib.hid ((hb5.block X (Array.getElem?_eq_some_iff.1 HX4.out).1).trans HX4.out)
    have HY5 := Lib.hid ((hb5.block Y (Array.getElem?_eq_some_iff.1 HY4.out).1).trans HY4.out)
    have HM5 := Lib.hid ((hb5.block M (Array.getElem?_eq_some_iff.1 HM4.out).1).trans HM4.out)
    have HL5 := Lib.hid (SlT.below HL4.out hb5)
    have HK5 := Lib.hid (SlT.below HK4.out hb5)
    clear HX4 HY4 HM4 HL4 HK4
    have bel5 := bel4.trans (hb5.mono bel4.size)
    have HS5 := Lib.hid (same_below' HS4.out hb5)
    obtain ⟨Vk, hVk⟩ : ∃ V, validT k = V := ⟨_, rfl⟩
    rw [hVk]
    have HVk := Lib.hid hVk
    clear hVk
    cases Vk
    · have cX_0 := box_at HX5.out (j := 0) rfl
      have cY_0 := box_at HY5.out (j := 0) rfl
      have cM_0 := box_at HM5.out (j := 0) rfl
      have cM_1 := box_at HM5.out (j := 1) rfl
      have cM_2 := box_at HM5.out (j := 2) rfl
      have cM_3 := box_at HM5.out (j := 3) rfl
      have cM_4 := box_at HM5.out (j := 4) rfl
      have cM_5 := box_at HM5.out (j := 5) rfl
      have cM_6 := box_at HM5.out (j := 6) rfl
      have cM_7 := box_at HM5.out (j := 7) rfl
      have cM_8 := box_at HM5.out (j := 8) rfl
      go_wp2
      refine Txt.SegPost.mk (Txt.Ty.Shown.same HS5.out) ?_
      (try simp only [Txt.pick, List.getElem?_cons_succ, List.getElem?_cons_zero])
      go_wp2
      refine Txt.RunPost.mk ?_
      refine Txt.Ty.wpTr_alt ?_ Txt.Ty.wpTr_no
      (try simp only [Txt.pick, List.getElem?_cons_succ, List.getElem?_cons_zero])
      go_wp2
      refine Txt.SegPost.mk (Txt.Ty.Shown.same HS5.out) ?_
      (try simp only [Txt.pick, List.getElem?_cons_succ, List.getElem?_cons_zero])
      go_wp2
      refine Txt.RunPost.mk ?_
      refine Txt.Ty.wpTr_alt ?_ Txt.Ty.wpTr_no
      (try simp only [Txt.pick, List.getElem?_cons_succ, List.getElem?_cons_zero])
      go_wp2
      refine Txt.SegPost.mk (Txt.Ty.Shown.same HS5.out) ?_
      (try simp only [Txt.pick, List.getElem?_cons_succ, List.getElem?_cons_zero])
      go_wp2
      refine Txt.RunPost.mk ?_
      refine Txt.Ty.wpTr_done (by rfl) ⟨.tail _ (.head _), trivial⟩ ?_
      go_wp2
      go_ret
      exact ⟨rfl, bel5⟩
    have cX_0 := box_at HX5.out (j := 0) rfl
    have cY_0 := box_at HY5.out (j := 0) rfl
    have cM_0 := box_at HM5.out (j := 0) rfl
    have cM_1 := box_at HM5.out (j := 1) rfl
    have cM_2 := box_at HM5.out (j := 2) rfl
    have cM_3 := box_at HM5.out (j := 3) rfl
    have cM_4 := box_at HM5.out (j := 4) rfl
    have cM_5 := box_at HM5.out (j := 5) rfl
    have cM_6 := box_at HM5.out (j := 6) rfl
    have cM_7 := box_at HM5.out (j := 7) rfl
    have cM_8 := box_at HM5.out (j := 8) rfl
    go_wp2
    refine Txt.SegPost.mk (Txt.Ty.Shown.same HS5.out) ?_
    (try simp only [Txt.pick, List.getElem?_cons_succ, List.getElem?_cons_zero])
    go_wp2
    refine Txt.RunPost.mk ?_
    refine Txt.Ty.wpTr_alt ?_ Txt.Ty.wpTr_no
    (try simp only [Txt.pick, List.getElem?_cons_succ, List.getElem?_cons_zero])
    go_wp2_with fail
    refine (rsleeps_any _ l tk _ (by have := Hcl.out; omega) HL5.out).mono ?_
    rintro e w6 ⟨rfl, hb6⟩
    clear cX_0 cY_0 cM_0 cM_1 cM_2 cM_3 cM_4 cM_5 cM_6 cM_7 cM_8
    have HX6 := Lib.hid ((hb6.block X (Array.getElem?_eq_some_iff.1 HX5.out).1).trans HX5.out)
    have HY6 := Lib.hid ((hb6.block Y (Array.getElem?_eq_some_iff.1 HY5.out).1).trans HY5.out)
    have HM6 := Lib.hid ((hb6.block M (Array.getElem?_eq_some_iff.1 HM5.out).1).trans HM5.out)
    have HL6 := Lib.hid (SlT.below HL5.out hb6)
    have HK6 := Lib.hid (SlT.below HK5.out hb6)
    clear HX5 HY5 HM5 HL5 HK5
    have bel6 := bel5.trans (hb6.mono bel5.size)
    have HS6 := Lib.hid (same_below' HS5.out hb6)
    obtain ⟨bl, hbl⟩ : ∃ B, decide (tk ∈ l) = B := ⟨_, rfl⟩
    rw [hbl]
    have HBl := Lib.hid hbl
    clear hbl
    have cX_0 := box_at HX6.out (j := 0) rfl
    have cY_0 := box_at HY6.out (j := 0) rfl
    have cM_0 := box_at HM6.out (j := 0) rfl
    have cM_1 := box_at HM6.out (j := 1) rfl
    have cM_2 := box_at HM6.out (j := 2) rfl
    have cM_3 := box_at HM6.out (j := 3) rfl
    have cM_4 := box_at HM6.out (j := 4) rfl
    have cM_5 := box_at HM6.out (j := 5) rfl
    have cM_6 := box_at HM6.out (j := 6) rfl
    have cM_7 := box_at HM6.out (j := 7) rfl
    have cM_8 := box_at HM6.out (j := 8) rfl
    go_wp2
    refine Txt.SegPost.mk (Txt.Ty.Shown.same HS6.out) ?_
    (try simp only [Txt.pick, List.getElem?_cons_succ, List.getElem?_cons_zero])
    go_wp2
    refine Txt.RunPost.mk ?_
    refine Txt.Ty.wpTr_alt ?_ Txt.Ty.wpTr_no
    (try simp only [Txt.pick, List.getElem?_cons_succ, List.getElem?_cons_zero])
    go_wp2_with fail
    refine (rsleeps_any _ k tk _ (by have := Hck.out; omega) HK6.out).mono ?_
    rintro e w7 ⟨rfl, hb7⟩
    clear cX_0 cY_0 cM_0 cM_1 cM_2 cM_3 cM_4 cM_5 cM_6 cM_7 cM_8
    have HX7 := Lib.hid ((hb7.block X (Array.getElem?_eq_some_iff.1 HX6.out).1).trans HX6.out)
    have HY7 := Lib.hid ((hb7.block Y (Array.getElem?_eq_some_iff.1 HY6.out).1).trans HY6.out)
    have HM7 := Lib.hid ((hb7.block M (Array.getElem?_eq_some_iff.1 HM6.out).1).trans HM6.out)
    have HL7 := Lib.hid (SlT.below HL6.out hb7)
    have HK7 := Lib.hid (SlT.below HK6.out hb7)
    clear HX6 HY6 HM6 HL6 HK6
    have bel7 := bel6.trans (hb7.mono bel6.size)
    have HS7 := Lib.hid (same_below' HS6.out hb7)
    obtain ⟨bk, hbk⟩ : ∃ B, decide (tk ∈ k) = B := ⟨_, rfl⟩
    rw [hbk]
    have HBk := Lib.hid hbk
    clear hbk
    have cX_0 := box_at HX7.out (j := 0) rfl
    have cY_0 := box_at HY7.out (j := 0) rfl
    have cM_0 := box_at HM7.out (j := 0) rfl
    have cM_1 := box_at HM7.out (j := 1) rfl
    have cM_2 := box_at HM7.out (j := 2) rfl
    have cM_3 := box_at HM7.out (j := 3) rfl
    have cM_4 := box_at HM7.out (j := 4) rfl
    have cM_5 := box_at HM7.out (j := 5) rfl
    have cM_6 := box_at HM7.out (j := 6) rfl
    have cM_7 := box_at HM7.out (j := 7) rfl
    have cM_8 := box_at HM7.out (j := 8) rfl
    by_cases hbb : bl = bk
    rotate_left
    · cases bl <;> cases bk
      · exact absurd rfl hbb
      · clear hbb HBl HBk
        go_wp2
        refine Txt.SegPost.mk (Txt.Ty.Shown.same HS7.out) ?_
        (try simp only [Txt.pick, List.getElem?_cons_succ, List.getElem?_cons_zero])
        go_wp2
        refine Txt.RunPost.mk ?_
        refine Txt.Ty.wpTr_done (by rfl) ⟨.tail _ (.head _), trivial⟩ ?_
        go_wp2
        go_ret
        exact ⟨rfl, bel7⟩
      · clear hbb HBl HBk
        go_wp2
        refine Txt.SegPost.mk (Txt.Ty.Shown.same HS7.out) ?_
        (try simp only [Txt.pick, List.getElem?_cons_succ, List.getElem?_cons_zero])
        go_wp2
        refine Txt.RunPost.mk ?_
        refine Txt.Ty.wpTr_done (by rfl) ⟨.tail _ (.head _), trivial⟩ ?_
        go_wp2
        go_ret
        exact ⟨rfl, bel7⟩
      · exact absurd rfl hbb
    have hne : (bl != bk) = false := by simp [hbb]
    go_wp2
    refine Txt.SegPost.mk (Txt.Ty.Shown.same HS7.out) ?_
    (try simp only [Txt.pick, List.getElem?_cons_succ, List.getElem?_cons_zero])
    go_wp2
    refine Txt.RunPost.mk ?_
    refine Txt.Ty.wpTr_done (by rfl) ⟨.tail _ (.head _), trivial⟩ ?_
    have hloc := take_local (l := l) (k := k) (m := ⟨ms, md, mk, mq, m0, m1, m2, m3⟩) (by rw [HTK.out]; exact decide_eq_decide.1 (HBl.out.trans (hbb.trans HBk.out.symm)))
    rw [HTK.out] at hloc
    have HLOC := Lib.hid hloc
    clear hloc hbb hne HBl HBk
    clear cX_0 cY_0 cM_0 cM_1 cM_2 cM_3 cM_4 cM_5 cM_6 cM_7 cM_8
    rcases HLOC.out with ⟨hT1, hT2⟩ | ⟨l', k', es, hT1, hT2, hT3⟩
    · have Sl := Lib.hid (stp_none (m := ⟨ms, md, mk, mq, m0, m1, m2, m3⟩) HVl.out hT1)
      have Sk := Lib.hid (stp_none (m := ⟨ms, md, mk, mq, m0, m1, m2, m3⟩) HVk.out hT2)
      clear hT1 hT2
      go_upto_region 8 with (fail)
      have HBL7 : Hid (∀ q ∈ [M], ∃ cc e f, w7.heap[q]? = some (.cells cc e f)) := Lib.hid (by
        intro q hq
        simp only [List.mem_cons, List.not_mem_nil, or_false] at hq
        rcases hq with rfl <;> first | exact ⟨_, _, _, HM7.out⟩)
      have hBl := show ∀ q ∈ [M], ∃ cc e f, w7.heap[q]? = some (.cells cc e f) from HBL7.out
      clear HBL7
      refine Txt.Ty.wp_tree [M] [2] [] [0, 2] [0, 2] (.alt [1] (.alt [3, 4, 5, 6, 7, 8, 9, 10] (.done) (.no)) (.no)) (by kernel_rfl) (by kernel_rfl) (by kernel_rfl) (by kernel_rfl) hBl ?_
      obtain ⟨w8, hwd⟩ : ∃ y, y = w7.drew := ⟨_, rfl⟩
      have HS8 : Hid (Txt.SameB [M] w8 w8) := Lib.hid (by rw [hwd]; exact same_start hBl)
      clear hBl
      rw [← hwd]
      have hdr : Below w7.heap.size w7 w8 := by rw [hwd]; exact (Below.refl _ _).drew
      have HX8 := Lib.hid ((hdr.block X (Array.getElem?_eq_some_iff.1 HX7.out).1).trans HX7.out)
      have HY8 := Lib.hid ((hdr.block Y (Array.getElem?_eq_some_iff.1 HY7.out).1).trans HY7.out)
      have HM8 := Lib.hid ((hdr.block M (Array.getElem?_eq_some_iff.1 HM7.out).1).trans HM7.out)
      have HL8 := Lib.hid (SlT.below HL7.out hdr)
      have HK8 := Lib.hid (SlT.below HK7.out hdr)
      clear HX7 HY7 HM7 HL7 HK7
      have bel8 := bel7.trans (hdr.mono bel7.size)
      clear hdr hwd
      have cX_0 := box_at HX8.out (j := 0) rfl
      have cY_0 := box_at HY8.out (j := 0) rfl
      have cM_0 := box_at HM8.out (j := 0) rfl
      have cM_1 := box_at HM8.out (j := 1) rfl
      have cM_2 := box_at HM8.out (j := 2) rfl
      have cM_3 := box_at HM8.out (j := 3) rfl
      have cM_4 := box_at HM8.out (j := 4) rfl
      have cM_5 := box_at HM8.out (j := 5) rfl
      have cM_6 := box_at HM8.out (j := 6) rfl
      have cM_7 := box_at HM8.out (j := 7) rfl
      have cM_8 := box_at HM8.out (j := 8) rfl
      (try simp only [Txt.pick, List.getElem?_cons_succ, List.getElem?_cons_zero])
      go_wp2
      refine Txt.RunPost.mk ?_
      refine Txt.Ty.wpTr_alt ?_ Txt.Ty.wpTr_no
      (try simp only [Txt.pick, List.getElem?_cons_succ, List.getElem?_cons_zero])
      go_wp2_with fail
      refine (rencode_any _ l _ (by have := Hcl.out; omega) HL8.out).mono ?_
      rintro e w9 ⟨v9, rfl, hr9, hb9⟩
      clear cX_0 cY_0 cM_0 cM_1 cM_2 cM_3 cM_4 cM_5 cM_6 cM_7 cM_8
      have HX9 := Lib.hid ((hb9.block X (Array.getElem?_eq_some_iff.1 HX8.out).1).trans HX8.out)
      have HY9 := Lib.hid ((hb9.block Y (Array.getElem?_eq_some_iff.1 HY8.out).1).trans HY8.out)
      have HM9 := Lib.hid ((hb9.block M (Array.getElem?_eq_some_iff.1 HM8.out).1).trans HM8.out)
      have HL9 := Lib.hid (SlT.below HL8.out hb9)
      have HK9 := Lib.hid (SlT.below HK8.out hb9)
      clear HX8 HY8 HM8 HL8 HK8
      have bel9 := bel8.trans (hb9.mono bel8.size)
      have HS9 := Lib.hid (same_below' HS8.out hb9)
      have HBl9 := Lib.hid (RetB.raw hr9)
      obtain ⟨a9, c9, rfl⟩ := own_slice hr9
      clear hr9 hb9
      have cX_0 := box_at HX9.out (j := 0) rfl
      have cY_0 := box_at HY9.out (j := 0) rfl
      have cM_0 := box_at HM9.out (j := 0) rfl
      have cM_1 := box_at HM9.out (j := 1) rfl
      have cM_2 := box_at HM9.out (j := 2) rfl
      have cM_3 := box_at HM9.out (j := 3) rfl
      have cM_4 := box_at HM9.out (j := 4) rfl
      have cM_5 := box_at HM9.out (j := 5) rfl
      have cM_6 := box_at HM9.out (j := 6) rfl
      have cM_7 := box_at HM9.out (j := 7) rfl
      have cM_8 := box_at HM9.out (j := 8) rfl
      go_wp2
      refine Txt.SegPost.mk (Txt.Ty.Shown.same HS9.out) ?_
      (try simp only [Txt.pick, List.getElem?_cons_succ, List.getElem?_cons_zero])
      go_wp2
      refine Txt.RunPost.mk ?_
      refine Txt.Ty.wpTr_alt ?_ Txt.Ty.wpTr_no
      (try simp only [Txt.pick, List.getElem?_cons_succ, List.getElem?_cons_zero])
      go_wp2_with fail
      refine (step_any _ (.slice da d.length dc) (Ti.encS l) ⟨ms, md, mk, mq, m0, m1, m2, m3⟩ _ HBl9.out (by have := encS_len (l := l); omega) ⟨_, _, _, rfl⟩).mono ?_
      rw [Sl.out]
      rintro e w10 ⟨hb10, rfl⟩
      clear cX_0 cY_0 cM_0 cM_1 cM_2 cM_3 cM_4 cM_5 cM_6 cM_7 cM_8
      have HX10 := Lib.hid ((hb10.block X (Array.getElem?_eq_some_iff.1 HX9.out).1).trans HX9.out)
      have HY10 := Lib.hid ((hb10.block Y (Array.getElem?_eq_some_iff.1 HY9.out).1).trans HY9.out)
      have HM10 := Lib.hid ((hb10.block M (Array.getElem?_eq_some_iff.1 HM9.out).1).trans HM9.out)
      have HL10 := Lib.hid (SlT.below HL9.out hb10)
      have HK10 := Lib.hid (SlT.below HK9.out hb10)
      have HBl10 := Lib.hid (Raw.below HBl9.out hb10)
      clear HX9 HY9 HM9 HL9 HK9 HBl9
      have bel10 := bel9.trans (hb10.mono bel9.size)
      have HS10 := Lib.hid (same_below' HS9.out hb10)
      clear hb10
      clear HBl10
      go_wp2
      refine Txt.SegPost.mk (Txt.Ty.Shown.same HS10.out) ?_
      (try simp only [Txt.pick, List.getElem?_cons_succ, List.getElem?_cons_zero])
      go_wp2
      refine Txt.RunPost.mk ?_
      refine Txt.Ty.wpTr_done (by rfl) ⟨.head _, trivial⟩ ?_
      go_upto_region 9 with (fail)
      have HBL10 : Hid (∀ q ∈ [M], ∃ cc e f, w10.heap[q]? = some (.cells cc e f)) := Lib.hid (by
        intro q hq
        simp only [List.mem_cons, List.not_mem_nil, or_false] at hq
        rcases hq with rfl <;> first | exact ⟨_, _, _, HM10.out⟩)
      have hBl := show ∀ q ∈ [M], ∃ cc e f, w10.heap[q]? = some (.cells cc e f) from HBL10.out
      clear HBL10
      refine Txt.Ty.wp_tree [M] [2] [] [0, 2] [0, 2] (.alt [1] (.alt [3, 4, 5, 6, 7, 8, 9, 10] (.done) (.no)) (.no)) (by kernel_rfl) (by kernel_rfl) (by kernel_rfl) (by kernel_rfl) hBl ?_
      obtain ⟨w11, hwd⟩ : ∃ y, y = w10.drew := ⟨_, rfl⟩
      have HS11 : Hid (Txt.SameB [M] w11 w11) := Lib.hid (by rw [hwd]; exact same_start hBl)
      clear hBl
      rw [← hwd]
      have hdr : Below w10.heap.size w10 w11 := by rw [hwd]; exact (Below.refl _ _).drew
      have HX11 := Lib.hid ((hdr.block X (Array.getElem?_eq_some_iff.1 HX10.out).1).trans HX10.out)
      have HY11 := Lib.hid ((hdr.block Y (Array.getElem?_eq_some_iff.1 HY10.out).1).trans HY10.out)
      have HM11 := Lib.hid ((hdr.block M (Array.getElem?_eq_some_iff.1 HM10.out).1).trans HM10.out)
      have HL11 := Lib.hid (SlT.below HL10.out hdr)
      have HK11 := Lib.hid (SlT.below HK10.out hdr)
      clear HX10 HY10 HM10 HL10 HK10
      have bel11 := bel10.trans (hdr.mono bel10.size)
      clear hdr hwd
      have cX_0 := box_at HX11.out (j := 0) rfl
      have cY_0 := box_at HY11.out (j := 0) rfl
      have cM_0 := box_at HM11.out (j := 0) rfl
      have cM_1 := box_at HM11.out (j := 1) rfl
      have cM_2 := box_at HM11.out (j := 2) rfl
      have cM_3 := box_at HM11.out (j := 3) rfl
      have cM_4 := box_at HM11.out (j := 4) rfl
      have cM_5 := box_at HM11.out (j := 5) rfl
      have cM_6 := box_at HM11.out (j := 6) rfl
      have cM_7 := box_at HM11.out (j := 7) rfl
      have cM_8 := box_at HM11.out (j := 8) rfl
      (try simp only [Txt.pick, List.getElem?_cons_succ, List.getElem?_cons_zero])
      go_wp2
      refine Txt.RunPost.mk ?_
      refine Txt.Ty.wpTr_alt ?_ Txt.Ty.wpTr_no
      (try simp only [Txt.pick, List.getElem?_cons_succ, List.getElem?_cons_zero])
      go_wp2_with fail
      refine (rencode_any _ k _ (by have := Hck.out; omega) HK11.out).mono ?_
      rintro e w12 ⟨v12, rfl, hr12, hb12⟩
      clear cX_0 cY_0 cM_0 cM_1 cM_2 cM_3 cM_4 cM_5 cM_6 cM_7 cM_8
      have HX12 := Lib.hid ((hb12.block X (Array.getElem?_eq_some_iff.1 HX11.out).1).trans HX11.out)
      have HY12 := Lib.hid ((hb12.block Y (Array.getElem?_eq_some_iff.1 HY11.out).1).trans HY11.out)
      have HM12 := Lib.hid ((hb12.block M (Array.getElem?_eq_some_iff.1 HM11.out).1).trans HM11.out)
      have HL12 := Lib.hid (SlT.below HL11.out hb12)
      have HK12 := Lib.hid (SlT.below HK11.out hb12)
      clear HX11 HY11 HM11 HL11 HK11
      have bel12 := bel11.trans (hb12.mono bel11.size)
      have HS12 := Lib.hid (same_below' HS11.out hb12)
      have HBk12 := Lib.hid (RetB.raw hr12)
      obtain ⟨a12, c12, rfl⟩ := own_slice hr12
      clear hr12 hb12
      have cX_0 := box_at HX12.out (j := 0) rfl
      have cY_0 := box_at HY12.out (j := 0) rfl
      have cM_0 := box_at HM12.out (j := 0) rfl
      have cM_1 := box_at HM12.out (j := 1) rfl
      have cM_2 := box_at HM12.out (j := 2) rfl
      have cM_3 := box_at HM12.out (j := 3) rfl
      have cM_4 := box_at HM12.out (j := 4) rfl
      have cM_5 := box_at HM12.out (j := 5) rfl
      have cM_6 := box_at HM12.out (j := 6) rfl
      have cM_7 := box_at HM12.out (j := 7) rfl
      have cM_8 := box_at HM12.out (j := 8) rfl
      go_wp2
      refine Txt.SegPost.mk (Txt.Ty.Shown.same HS12.out) ?_
      (try simp only [Txt.pick, List.getElem?_cons_succ, List.getElem?_cons_zero])
      go_wp2
      refine Txt.RunPost.mk ?_
      refine Txt.Ty.wpTr_alt ?_ Txt.Ty.wpTr_no
      (try simp only [Txt.pick, List.getElem?_cons_succ, List.getElem?_cons_zero])
      go_wp2_with fail
      refine (step_any _ (.slice da d.length dc) (Ti.encS k) ⟨ms, md, mk, mq, m0, m1, m2, m3⟩ _ HBk12.out (by have := encS_len (l := k); omega) ⟨_, _, _, rfl⟩).mono ?_
      rw [Sk.out]
      rintro e w13 ⟨hb13, rfl⟩
      clear cX_0 cY_0 cM_0 cM_1 cM_2 cM_3 cM_4 cM_5 cM_6 cM_7 cM_8
      have HX13 := Lib.hid ((hb13.block X (Array.getElem?_eq_some_iff.1 HX12.out).1).trans HX12.out)
      have HY13 := Lib.hid ((hb13.block Y (Array.getElem?_eq_some_iff.1 HY12.out).1).trans HY12.out)
      have HM13 := Lib.hid ((hb13.block M (Array.getElem?_eq_some_iff.1 HM12.out).1).trans HM12.out)
      have HL13 := Lib.hid (SlT.below HL12.out hb13)
      have HK13 := Lib.hid (SlT.below HK12.out hb13)
      have HBk13 := Lib.hid (Raw.below HBk12.out hb13)
      clear HX12 HY12 HM12 HL12 HK12 HBk12
      have bel13 := bel12.trans (hb13.mono bel12.size)
      have HS13 := Lib.hid (same_below' HS12.out hb13)
      clear hb13
      clear HBk13
      go_wp2
      refine Txt.SegPost.mk (Txt.Ty.Shown.same HS13.out) ?_
      (try simp only [Txt.pick, List.getElem?_cons_succ, List.getElem?_cons_zero])
      go_wp2
      refine Txt.RunPost.mk ?_
      refine Txt.Ty.wpTr_done (by rfl) ⟨.head _, trivial⟩ ?_
      go_wp2_with fail
      refine (sameeff_any _ _ [] _ (by simp) (Raw.empty _ _ _) (Raw.empty _ _ _)).mono ?_
      rintro e w14 ⟨rfl, hb14⟩
      have HX14 := Lib.hid ((hb14.block X (Array.getElem?_eq_some_iff.1 HX13.out).1).trans HX13.out)
      have HY14 := Lib.hid ((hb14.block Y (Array.getElem?_eq_some_iff.1 HY13.out).1).trans HY13.out)
      have HM14 := Lib.hid ((hb14.block M (Array.getElem?_eq_some_iff.1 HM13.out).1).trans HM13.out)
      have HL14 := Lib.hid (SlT.below HL13.out hb14)
      have HK14 := Lib.hid (SlT.below HK13.out hb14)
      clear HX13 HY13 HM13 HL13 HK13
      have bel14 := bel13.trans (hb14.mono bel13.size)
      go_wp2
      go_ret
      exact ⟨rfl, bel14⟩
    · have Sl := Lib.hid (stp_of (m := ⟨ms, md, mk, mq, m0, m1, m2, m3⟩) HVl.out hT1)
      have Sk := Lib.hid (stp_of (m := ⟨ms, md, mk, mq, m0, m1, m2, m3⟩) HVk.out hT2)
      have HVl' := Lib.hid (valid_take HVl.out hT1)
      have HVk' := Lib.hid (valid_take HVk.out hT2)
      have Hll := Lib.hid (valid_len HVl'.out)
      have Hlk := Lib.hid (valid_len HVk'.out)
      have Hes := Lib.hid (take_es hT1)
      have HM3 := Lib.hid hT3
      clear hT1 hT2 hT3
      go_upto_region 8 with (fail)
      have HBL7 : Hid (∀ q ∈ [M], ∃ cc e f, w7.heap[q]? = some (.cells cc e f)) := Lib.hid (by
        intro q hq
        simp only [List.mem_cons, List.not_mem_nil, or_false] at hq
        rcases hq with rfl <;> first | exact ⟨_, _, _, HM7.out⟩)
      have hBl := show ∀ q ∈ [M], ∃ cc e f, w7.heap[q]? = some (.cells cc e f) from HBL7.out
      clear HBL7
      refine Txt.Ty.wp_tree [M] [2] [] [0, 2] [0, 2] (.alt [1] (.alt [3, 4, 5, 6, 7, 8, 9, 10] (.done) (.no)) (.no)) (by kernel_rfl) (by kernel_rfl) (by kernel_rfl) (by kernel_rfl) hBl ?_
      obtain ⟨w8, hwd⟩ : ∃ y, y = w7.drew := ⟨_, rfl⟩
      have HS8 : Hid (Txt.SameB [M] w8 w8) := Lib.hid (by rw [hwd]; exact same_start hBl)
      clear hBl
      rw [← hwd]
      have hdr : Below w7.heap.size w7 w8 := by rw [hwd]; exact (Below.refl _ _).drew
      have HX8 := Lib.hid ((hdr.block X (Array.getElem?_eq_some_iff.1 HX7.out).1).trans HX7.out)
      have HY8 := Lib.hid ((hdr.block Y (Array.getElem?_eq_some_iff.1 HY7.out).1).trans HY7.out)
      have HM8 := Lib.hid ((hdr.block M (Array.getElem?_eq_some_iff.1 HM7.out).1).trans HM7.out)
      have HL8 := Lib.hid (SlT.below HL7.out hdr)
      have HK8 := Lib.hid (SlT.below HK7.out hdr)
      clear HX7 HY7 HM7 HL7 HK7
      have bel8 := bel7.trans (hdr.mono bel7.size)
      clear hdr hwd
      have cX_0 := box_at HX8.out (j := 0) rfl
      have cY_0 := box_at HY8.out (j := 0) rfl
      have cM_0 := box_at HM8.out (j := 0) rfl
      have cM_1 := box_at HM8.out (j := 1) rfl
      have cM_2 := box_at HM8.out (j := 2) rfl
      have cM_3 := box_at HM8.out (j := 3) rfl
      have cM_4 := box_at HM8.out (j := 4) rfl
      have cM_5 := box_at HM8.out (j := 5) rfl
      have cM_6 := box_at HM8.out (j := 6) rfl
      have cM_7 := box_at HM8.out (j := 7) rfl
      have cM_8 := box_at HM8.out (j := 8) rfl
      (try simp only [Txt.pick, List.getElem?_cons_succ, List.getElem?_cons_zero])
      go_wp2
      refine Txt.RunPost.mk ?_
      refine Txt.Ty.wpTr_alt ?_ Txt.Ty.wpTr_no
      (try simp only [Txt.pick, List.getElem?_cons_succ, List.getElem?_cons_zero])
      go_wp2_with fail
      refine (rencode_any _ l _ (by have := Hcl.out; omega) HL8.out).mono ?_
      rintro e w9 ⟨v9, rfl, hr9, hb9⟩
      clear cX_0 cY_0 cM_0 cM_1 cM_2 cM_3 cM_4 cM_5 cM_6 cM_7 cM_8
      have HX9 := Lib.hid ((hb9.block X (Array.getElem?_eq_some_iff.1 HX8.out).1).trans HX8.out)
      have HY9 := Lib.hid ((hb9.block Y (Array.getElem?_eq_some_iff.1 HY8.out).1).trans HY8.out)
      have HM9 := Lib.hid ((hb9.block M (Array.getElem?_eq_some_iff.1 HM8.out).1).trans HM8.out)
      have HL9 := Lib.hid (SlT.below HL8.out hb9)
      have HK9 := Lib.hid (SlT.below HK8.out hb9)
      clear HX8 HY8 HM8 HL8 HK8
      have bel9 := bel8.trans (hb9.mono bel8.size)
      have HS9 := Lib.hid (same_below' HS8.out hb9)
      have HBl9 := Lib.hid (RetB.raw hr9)
      obtain ⟨a9, c9, rfl⟩ := own_slice hr9
      clear hr9 hb9
      have cX_0 := box_at HX9.out (j := 0) rfl
      have cY_0 := box_at HY9.out (j := 0) rfl
      have cM_0 := box_at HM9.out (j := 0) rfl
      have cM_1 := box_at HM9.out (j := 1) rfl
      have cM_2 := box_at HM9.out (j := 2) rfl
      have cM_3 := box_at HM9.out (j := 3) rfl
      have cM_4 := box_at HM9.out (j := 4) rfl
      have cM_5 := box_at HM9.out (j := 5) rfl
      have cM_6 := box_at HM9.out (j := 6) rfl
      have cM_7 := box_at HM9.out (j := 7) rfl
      have cM_8 := box_at HM9.out (j := 8) rfl
      go_wp2
      refine Txt.SegPost.mk (Txt.Ty.Shown.same HS9.out) ?_
      (try simp only [Txt.pick, List.getElem?_cons_succ, List.getElem?_cons_zero])
      go_wp2
      refine Txt.RunPost.mk ?_
      refine Txt.Ty.wpTr_alt ?_ Txt.Ty.wpTr_no
      (try simp only [Txt.pick, List.getElem?_cons_succ, List.getElem?_cons_zero])
      go_wp2_with fail
      refine (step_any _ (.slice da d.length dc) (Ti.encS l) ⟨ms, md, mk, mq, m0, m1, m2, m3⟩ _ HBl9.out (by have := encS_len (l := l); omega) ⟨_, _, _, rfl⟩).mono ?_
      rw [Sl.out]
      rintro e w10 ⟨hb10, iv10, ev10, rfl, hr10, hE10⟩
      clear cX_0 cY_0 cM_0 cM_1 cM_2 cM_3 cM_4 cM_5 cM_6 cM_7 cM_8
      have HX10 := Lib.hid ((hb10.block X (Array.getElem?_eq_some_iff.1 HX9.out).1).trans HX9.out)
      have HY10 := Lib.hid ((hb10.block Y (Array.getElem?_eq_some_iff.1 HY9.out).1).trans HY9.out)
      have HM10 := Lib.hid ((hb10.block M (Array.getElem?_eq_some_iff.1 HM9.out).1).trans HM9.out)
      have HL10 := Lib.hid (SlT.below HL9.out hb10)
      have HK10 := Lib.hid (SlT.below HK9.out hb10)
      have HBl10 := Lib.hid (Raw.below HBl9.out hb10)
      clear HX9 HY9 HM9 HL9 HK9 HBl9
      have bel10 := bel9.trans (hb10.mono bel9.size)
      have HS10 := Lib.hid (same_below' HS9.out hb10)
      have HA10 := Lib.hid (RetB.raw hr10)
      have HE10 := Lib.hid (hE10)
      obtain ⟨ia10, ic10, rfl⟩ := own_slice hr10
      obtain ⟨ea10, ec10, rfl⟩ := Raw.slice hE10
      clear hb10 hr10 hE10
      clear HBl10
      go_wp2
      refine Txt.SegPost.mk (Txt.Ty.Shown.same HS10.out) ?_
      (try simp only [Txt.pick, List.getElem?_cons_succ, List.getElem?_cons_zero])
      go_wp2
      refine Txt.RunPost.mk ?_
      refine Txt.Ty.wpTr_done (by rfl) ⟨.head _, trivial⟩ ?_
      go_upto_region 9 with (fail)
      have HBL10 : Hid (∀ q ∈ [M], ∃ cc e f, w10.heap[q]? = some (.cells cc e f)) := Lib.hid (by
        intro q hq
        simp only [List.mem_cons, List.not_mem_nil, or_false] at hq
        rcases hq with rfl <;> first | exact ⟨_, _, _, HM10.out⟩)
      have hBl := show ∀ q ∈ [M], ∃ cc e f, w10.heap[q]? = some (.cells cc e f) from HBL10.out
      clear HBL10
      refine Txt.Ty.wp_tree [M] [2] [] [0, 2] [0, 2] (.alt [1] (.alt [3, 4, 5, 6, 7, 8, 9, 10] (.done) (.no)) (.no)) (by kernel_rfl) (by kernel_rfl) (by kernel_rfl) (by kernel_rfl) hBl ?_
      obtain ⟨w11, hwd⟩ : ∃ y, y = w10.drew := ⟨_, rfl⟩
      have HS11 : Hid (Txt.SameB [M] w11 w11) := Lib.hid (by rw [hwd]; exact same_start hBl)
      clear hBl
      rw [← hwd]
      have hdr : Below w10.heap.size w10 w11 := by rw [hwd]; exact (Below.refl _ _).drew
      have HX11 := Lib.hid ((hdr.block X (Array.getElem?_eq_some_iff.1 HX10.out).1).trans HX10.out)
      have HY11 := Lib.hid ((hdr.block Y (Array.getElem?_eq_some_iff.1 HY10.out).1).trans HY10.out)
      have HM11 := Lib.hid ((hdr.block M (Array.getElem?_eq_some_iff.1 HM10.out).1).trans HM10.out)
      have HL11 := Lib.hid (SlT.below HL10.out hdr)
      have HK11 := Lib.hid (SlT.below HK10.out hdr)
      have HA11 := Lib.hid (Raw.below HA10.out hdr)
      have HE11 := Lib.hid (SlE.below HE10.out hdr)
      clear HX10 HY10 HM10 HL10 HK10 HA10 HE10
      have bel11 := bel10.trans (hdr.mono bel10.size)
      clear hdr hwd
      have cX_0 := box_at HX11.out (j := 0) rfl
      have cY_0 := box_at HY11.out (j := 0) rfl
      have cM_0 := box_at HM11.out (j := 0) rfl
      have cM_1 := box_at HM11.out (j := 1) rfl
      have cM_2 := box_at HM11.out (j := 2) rfl
      have cM_3 := box_at HM11.out (j := 3) rfl
      have cM_4 := box_at HM11.out (j := 4) rfl
      have cM_5 := box_at HM11.out (j := 5) rfl
      have cM_6 := box_at HM11.out (j := 6) rfl
      have cM_7 := box_at HM11.out (j := 7) rfl
      have cM_8 := box_at HM11.out (j := 8) rfl
      (try simp only [Txt.pick, List.getElem?_cons_succ, List.getElem?_cons_zero])
      go_wp2
      refine Txt.RunPost.mk ?_
      refine Txt.Ty.wpTr_alt ?_ Txt.Ty.wpTr_no
      (try simp only [Txt.pick, List.getElem?_cons_succ, List.getElem?_cons_zero])
      go_wp2_with fail
      refine (rencode_any _ k _ (by have := Hck.out; omega) HK11.out).mono ?_
      rintro e w12 ⟨v12, rfl, hr12, hb12⟩
      clear cX_0 cY_0 cM_0 cM_1 cM_2 cM_3 cM_4 cM_5 cM_6 cM_7 cM_8
      have HX12 := Lib.hid ((hb12.block X (Array.getElem?_eq_some_iff.1 HX11.out).1).trans HX11.out)
      have HY12 := Lib.hid ((hb12.block Y (Array.getElem?_eq_some_iff.1 HY11.out).1).trans HY11.out)
      have HM12 := Lib.hid ((hb12.block M (Array.getElem?_eq_some_iff.1 HM11.out).1).trans HM11.out)
      have HL12 := Lib.hid (SlT.below HL11.out hb12)
      have HK12 := Lib.hid (SlT.below HK11.out hb12)
      have HA12 := Lib.hid (Raw.below HA11.out hb12)
      have HE12 := Lib.hid (SlE.below HE11.out hb12)
      clear HX11 HY11 HM11 HL11 HK11 HA11 HE11
      have bel12 := bel11.trans (hb12.mono bel11.size)
      have HS12 := Lib.hid (same_below' HS11.out hb12)
      have HBk12 := Lib.hid (RetB.raw hr12)
      obtain ⟨a12, c12, rfl⟩ := own_slice hr12
      clear hr12 hb12
      have cX_0 := box_at HX12.out (j := 0) rfl
      have cY_0 := box_at HY12.out (j := 0) rfl
      have cM_0 := box_at HM12.out (j := 0) rfl
      have cM_1 := box_at HM12.out (j := 1) rfl
      have cM_2 := box_at HM12.out (j := 2) rfl
      have cM_3 := box_at HM12.out (j := 3) rfl
      have cM_4 := box_at HM12.out (j := 4) rfl
      have cM_5 := box_at HM12.out (j := 5) rfl
      have cM_6 := box_at HM12.out (j := 6) rfl
      have cM_7 := box_at HM12.out (j := 7) rfl
      have cM_8 := box_at HM12.out (j := 8) rfl
      go_wp2
      refine Txt.SegPost.mk (Txt.Ty.Shown.same HS12.out) ?_
      (try simp only [Txt.pick, List.getElem?_cons_succ, List.getElem?_cons_zero])
      go_wp2
      refine Txt.RunPost.mk ?_
      refine Txt.Ty.wpTr_alt ?_ Txt.Ty.wpTr_no
      (try simp only [Txt.pick, List.getElem?_cons_succ, List.getElem?_cons_zero])
      go_wp2_with fail
      refine (step_any _ (.slice da d.length dc) (Ti.encS k) ⟨ms, md, mk, mq, m0, m1, m2, m3⟩ _ HBk12.out (by have := encS_len (l := k); omega) ⟨_, _, _, rfl⟩).mono ?_
      rw [Sk.out]
      rintro e w13 ⟨hb13, iv13, ev13, rfl, hr13, hE13⟩
      clear cX_0 cY_0 cM_0 cM_1 cM_2 cM_3 cM_4 cM_5 cM_6 cM_7 cM_8
      have HX13 := Lib.hid ((hb13.block X (Array.getElem?_eq_some_iff.1 HX12.out).1).trans HX12.out)
      have HY13 := Lib.hid ((hb13.block Y (Array.getElem?_eq_some_iff.1 HY12.out).1).trans HY12.out)
      have HM13 := Lib.hid ((hb13.block M (Array.getElem?_eq_some_iff.1 HM12.out).1).trans HM12.out)
      have HL13 := Lib.hid (SlT.below HL12.out hb13)
      have HK13 := Lib.hid (SlT.below HK12.out hb13)
      have HA13 := Lib.hid (Raw.below HA12.out hb13)
      have HE13 := Lib.hid (SlE.below HE12.out hb13)
      have HBk13 := Lib.hid (Raw.below HBk12.out hb13)
      clear HX12 HY12 HM12 HL12 HK12 HA12 HE12 HBk12
      have bel13 := bel12.trans (hb13.mono bel12.size)
      have HS13 := Lib.hid (same_below' HS12.out hb13)
      have HC13 := Lib.hid (RetB.raw hr13)
      have HF13 := Lib.hid (hE13)
      obtain ⟨ia13, ic13, rfl⟩ := own_slice hr13
      obtain ⟨ea13, ec13, rfl⟩ := Raw.slice hE13
      clear hb13 hr13 hE13
      clear HBk13
      go_wp2
      refine Txt.SegPost.mk (Txt.Ty.Shown.same HS13.out) ?_
      (try simp only [Txt.pick, List.getElem?_cons_succ, List.getElem?_cons_zero])
      go_wp2
      refine Txt.RunPost.mk ?_
      refine Txt.Ty.wpTr_done (by rfl) ⟨.head _, trivial⟩ ?_
      go_wp2_with fail
      refine (sameeff_any _ _ es _ (by have := Hes.out; omega) HE13.out HF13.out).mono ?_
      rintro e w14 ⟨rfl, hb14⟩
      have HX14 := Lib.hid ((hb14.block X (Array.getElem?_eq_some_iff.1 HX13.out).1).trans HX13.out)
      have HY14 := Lib.hid ((hb14.block Y (Array.getElem?_eq_some_iff.1 HY13.out).1).trans HY13.out)
      have HM14 := Lib.hid ((hb14.block M (Array.getElem?_eq_some_iff.1 HM13.out).1).trans HM13.out)
      have HL14 := Lib.hid (SlT.below HL13.out hb14)
      have HK14 := Lib.hid (SlT.below HK13.out hb14)
      have HA14 := Lib.hid (Raw.below HA13.out hb14)
      have HE14 := Lib.hid (SlE.below HE13.out hb14)
      have HC14 := Lib.hid (Raw.below HC13.out hb14)
      have HF14 := Lib.hid (SlE.below HF13.out hb14)
      clear HX13 HY13 HM13 HL13 HK13 HA13 HE13 HC13 HF13
      have bel14 := bel13.trans (hb14.mono bel13.size)
      clear HE14
      clear HF14
      go_wp2_with fail
      refine (rdecode_any _ (Ti.encS l') _ HA14.out (Nat.le_trans encS_len (by decide))).mono ?_
      rw [decT_encS, HVl'.out]
      simp only [if_true]
      rintro e w15 ⟨v15, rfl, hr15, hb15⟩
      have HX15 := Lib.hid ((hb15.block X (Array.getElem?_eq_some_iff.1 HX14.out).1).trans HX14.out)
      have HY15 := Lib.hid ((hb15.block Y (Array.getElem?_eq_some_iff.1 HY14.out).1).trans HY14.out)
      have HM15 := Lib.hid ((hb15.block M (Array.getElem?_eq_some_iff.1 HM14.out).1).trans HM14.out)
      have HL15 := Lib.hid (SlT.below HL14.out hb15)
      have HK15 := Lib.hid (SlT.below HK14.out hb15)
      have HA15 := Lib.hid (Raw.below HA14.out hb15)
      have HC15 := Lib.hid (Raw.below HC14.out hb15)
      clear HX14 HY14 HM14 HL14 HK14 HA14 HC14
      have bel15 := bel14.trans (hb15.mono bel14.size)
      have HV15_15 := Lib.hid (SlT.of_own hr15)
      obtain ⟨da15, dc15, rfl⟩ := own_slice hr15
      clear hr15 hb15
      obtain ⟨P, hP⟩ : ∃ O, O = w15.heap.size := ⟨_, rfl⟩
      obtain ⟨w16, hw16⟩ : ∃ W, W = w15.alloc (.cells #[.slice da15 l'.length dc15] 24) := ⟨_, rfl⟩
      have hb16 : Below w15.heap.size w15 w16 := by rw [hw16]; exact (Below.refl _ _).alloc (Nat.le_refl _) _
      have hxP : w16.heap[P]? = some (.cells #[.slice da15 l'.length dc15] 24 (0, 0)) := by rw [hw16, hP]; exact heap_alloc_new w15 _
      have HW16 := Lib.hid hw16
      have HRP := Lib.hid hP
      clear hw16 hP
      go_upto_region 15 with (fail)
      rw [← HW16.out, ← HRP.out]
      clear HW16 HRP
      have HX16 := Lib.hid ((hb16.block X (Array.getElem?_eq_some_iff.1 HX15.out).1).trans HX15.out)
      have HY16 := Lib.hid ((hb16.block Y (Array.getElem?_eq_some_iff.1 HY15.out).1).trans HY15.out)
      have HM16 := Lib.hid ((hb16.block M (Array.getElem?_eq_some_iff.1 HM15.out).1).trans HM15.out)
      have HL16 := Lib.hid (SlT.below HL15.out hb16)
      have HK16 := Lib.hid (SlT.below HK15.out hb16)
      have HA16 := Lib.hid (Raw.below HA15.out hb16)
      have HC16 := Lib.hid (Raw.below HC15.out hb16)
      have HV15_16 := Lib.hid (SlT.below HV15_15.out hb16)
      clear HX15 HY15 HM15 HL15 HK15 HA15 HC15 HV15_15
      have bel16 := bel15.trans (hb16.mono bel15.size)
      have HP16 := Lib.hid (hxP)
      clear hb16 hxP
      go_wp2_with fail
      refine (rdecode_any _ (Ti.encS k') _ HC16.out (Nat.le_trans encS_len (by decide))).mono ?_
      rw [decT_encS, HVk'.out]
      simp only [if_true]
      rintro e w17 ⟨v17, rfl, hr17, hb17⟩
      have HX17 := Lib.hid ((hb17.block X (Array.getElem?_eq_some_iff.1 HX16.out).1).trans HX16.out)
      have HY17 := Lib.hid ((hb17.block Y (Array.getElem?_eq_some_iff.1 HY16.out).1).trans HY16.out)
      have HM17 := Lib.hid ((hb17.block M (Array.getElem?_eq_some_iff.1 HM16.out).1).trans HM16.out)
      have HL17 := Lib.hid (SlT.below HL16.out hb17)
      have HK17 := Lib.hid (SlT.below HK16.out hb17)
      have HA17 := Lib.hid (Raw.below HA16.out hb17)
      have HC17 := Lib.hid (Raw.below HC16.out hb17)
      have HV15_17 := Lib.hid (SlT.below HV15_16.out hb17)
      have HP17 := Lib.hid ((hb17.block P (Array.getElem?_eq_some_iff.1 HP16.out).1).trans HP16.out)
      clear HX16 HY16 HM16 HL16 HK16 HA16 HC16 HV15_16 HP16
      have bel17 := bel16.trans (hb17.mono bel16.size)
      have HV17_17 := Lib.hid (SlT.of_own hr17)
      obtain ⟨da17, dc17, rfl⟩ := own_slice hr17
      clear hr17 hb17
      obtain ⟨Q, hQ⟩ : ∃ O, O = w17.heap.size := ⟨_, rfl⟩
      obtain ⟨w18, hw18⟩ : ∃ W, W = w17.alloc (.cells #[.slice da17 k'.length dc17] 24) := ⟨_, rfl⟩
      have hb18 : Below w17.heap.size w17 w18 := by rw [hw18]; exact (Below.refl _ _).alloc (Nat.le_refl _) _
      have hxQ : w18.heap[Q]? = some (.cells #[.slice da17 k'.length dc17] 24 (0, 0)) := by rw [hw18, hQ]; exact heap_alloc_new w17 _
      have HW18 := Lib.hid hw18
      have HRQ := Lib.hid hQ
      clear hw18 hQ
      go_upto_region 16 with (fail)
      rw [← HW18.out, ← HRQ.out]
      clear HW18 HRQ
      have HX18 := Lib.hid ((hb18.block X (Array.getElem?_eq_some_iff.1 HX17.out).1).trans HX17.out)
      have HY18 := Lib.hid ((hb18.block Y (Array.getElem?_eq_some_iff.1 HY17.out).1).trans HY17.out)
      have HM18 := Lib.hid ((hb18.block M (Array.getElem?_eq_some_iff.1 HM17.out).1).trans HM17.out)
      have HL18 := Lib.hid (SlT.below HL17.out hb18)
      have HK18 := Lib.hid (SlT.below HK17.out hb18)
      have HA18 := Lib.hid (Raw.below HA17.out hb18)
      have HC18 := Lib.hid (Raw.below HC17.out hb18)
      have HV15_18 := Lib.hid (SlT.below HV15_17.out hb18)
      have HP18 := Lib.hid ((hb18.block P (Array.getElem?_eq_some_iff.1 HP17.out).1).trans HP17.out)
      have HV17_18 := Lib.hid (SlT.below HV17_17.out hb18)
      clear HX17 HY17 HM17 HL17 HK17 HA17 HC17 HV15_17 HP17 HV17_17
      have bel18 := bel17.trans (hb18.mono bel17.size)
      have HQ18 := Lib.hid (hxQ)
      clear hb18 hxQ
      have cP_0 := box_at HP18.out (j := 0) rfl
      have cQ_0 := box_at HQ18.out (j := 0) rfl
      go_upto_region 16 with (fail)
      have HBL18 : Hid (∀ q ∈ [Q], ∃ cc e f, w18.heap[q]? = some (.cells cc e f)) := Lib.hid (by
        intro q hq
        simp only [List.mem_cons, List.not_mem_nil, or_false] at hq
        rcases hq with rfl <;> first | exact ⟨_, _, _, HQ18.out⟩)
      have hBl := show ∀ q ∈ [Q], ∃ cc e f, w18.heap[q]? = some (.cells cc e f) from HBL18.out
      clear HBL18
      refine Txt.Ty.wp_tree [Q] [10] [] [7, 10] [0, 1, 2, 3, 4, 5, 6, 7, 8, 10, 11] (.alt [9] (.alt [12, 13, 14, 15] (.done) (.no)) (.no)) (by kernel_rfl) (by kernel_rfl) (by kernel_rfl) (by kernel_rfl) hBl ?_
      obtain ⟨w19, hwd⟩ : ∃ y, y = w18.drew := ⟨_, rfl⟩
      have HS19 : Hid (Txt.SameB [Q] w19 w19) := Lib.hid (by rw [hwd]; exact same_start hBl)
      clear hBl
      rw [← hwd]
      have hdr : Below w18.heap.size w18 w19 := by rw [hwd]; exact (Below.refl _ _).drew
      clear cP_0 cQ_0
      have HX19 := Lib.hid ((hdr.block X (Array.getElem?_eq_some_iff.1 HX18.out).1).trans HX18.out)
      have HY19 := Lib.hid ((hdr.block Y (Array.getElem?_eq_some_iff.1 HY18.out).1).trans HY18.out)
      have HM19 := Lib.hid ((hdr.block M (Array.getElem?_eq_some_iff.1 HM18.out).1).trans HM18.out)
      have HL19 := Lib.hid (SlT.below HL18.out hdr)
      have HK19 := Lib.hid (SlT.below HK18.out hdr)
      have HA19 := Lib.hid (Raw.below HA18.out hdr)
      have HC19 := Lib.hid (Raw.below HC18.out hdr)
      have HV15_19 := Lib.hid (SlT.below HV15_18.out hdr)
      have HP19 := Lib.hid ((hdr.block P (Array.getElem?_eq_some_iff.1 HP18.out).1).trans HP18.out)
      have HV17_19 := Lib.hid (SlT.below HV17_18.out hdr)
      have HQ19 := Lib.hid ((hdr.block Q (Array.getElem?_eq_some_iff.1 HQ18.out).1).trans HQ18.out)
      clear HX18 HY18 HM18 HL18 HK18 HA18 HC18 HV15_18 HP18 HV17_18 HQ18
      have bel19 := bel18.trans (hdr.mono bel18.size)
      clear hdr hwd
      have cP_0 := box_at HP19.out (j := 0) rfl
      have cQ_0 := box_at HQ19.out (j := 0) rfl
      (try simp only [Txt.pick, List.getElem?_cons_succ, List.getElem?_cons_zero])
      go_wp2
      refine Txt.RunPost.mk ?_
      refine Txt.Ty.wpTr_alt ?_ Txt.Ty.wpTr_no
      (try simp only [Txt.pick, List.getElem?_cons_succ, List.getElem?_cons_zero])
      go_wp2_with fail
      refine (rsleeps_any _ l' tk _ (by have := Hll.out; omega) HV15_19.out).mono ?_
      rintro e w20 ⟨rfl, hb20⟩
      clear cP_0 cQ_0
      have HX20 := Lib.hid ((hb20.block X (Array.getElem?_eq_some_iff.1 HX19.out).1).trans HX19.out)
      have HY20 := Lib.hid ((hb20.block Y (Array.getElem?_eq_some_iff.1 HY19.out).1).trans HY19.out)
      have HM20 := Lib.hid ((hb20.block M (Array.getElem?_eq_some_iff.1 HM19.out).1).trans HM19.out)
      have HL20 := Lib.hid (SlT.below HL19.out hb20)
      have HK20 := Lib.hid (SlT.below HK19.out hb20)
      have HA20 := Lib.hid (Raw.below HA19.out hb20)
      have HC20 := Lib.hid (Raw.below HC19.out hb20)
      have HV15_20 := Lib.hid (SlT.below HV15_19.out hb20)
      have HP20 := Lib.hid ((hb20.block P (Array.getElem?_eq_some_iff.1 HP19.out).1).trans HP19.out)
      have HV17_20 := Lib.hid (SlT.below HV17_19.out hb20)
      have HQ20 := Lib.hid ((hb20.block Q (Array.getElem?_eq_some_iff.1 HQ19.out).1).trans HQ19.out)
      clear HX19 HY19 HM19 HL19 HK19 HA19 HC19 HV15_19 HP19 HV17_19 HQ19
      have bel20 := bel19.trans (hb20.mono bel19.size)
      have HS20 := Lib.hid (same_below' HS19.out hb20)
      have cP_0 := box_at HP20.out (j := 0) rfl
      have cQ_0 := box_at HQ20.out (j := 0) rfl
      go_wp2
      refine Txt.SegPost.mk (Txt.Ty.Shown.same HS20.out) ?_
      (try simp only [Txt.pick, List.getElem?_cons_succ, List.getElem?_cons_zero])
      go_wp2
      refine Txt.RunPost.mk ?_
      refine Txt.Ty.wpTr_alt ?_ Txt.Ty.wpTr_no
      (try simp only [Txt.pick, List.getElem?_cons_succ, List.getElem?_cons_zero])
      go_wp2_with fail
      refine (rsleeps_any _ k' tk _ (by have := Hlk.out; omega) HV17_20.out).mono ?_
      rintro e w21 ⟨rfl, hb21⟩
      clear cP_0 cQ_0
      have HX21 := Lib.hid ((hb21.block X (Array.getElem?_eq_some_iff.1 HX20.out).1).trans HX20.out)
      have HY21 := Lib.hid ((hb21.block Y (Array.getElem?_eq_some_iff.1 HY20.out).1).trans HY20.out)
      have HM21 := Lib.hid ((hb21.block M (Array.getElem?_eq_some_iff.1 HM20.out).1).trans HM20.out)
      have HL21 := Lib.hid (SlT.below HL20.out hb21)
      have HK21 := Lib.hid (SlT.below HK20.out hb21)
      have HA21 := Lib.hid (Raw.below HA20.out hb21)
      have HC21 := Lib.hid (Raw.below HC20.out hb21)
      have HV15_21 := Lib.hid (SlT.below HV15_20.out hb21)
      have HP21 := Lib.hid ((hb21.block P (Array.getElem?_eq_some_iff.1 HP20.out).1).trans HP20.out)
      have HV17_21 := Lib.hid (SlT.below HV17_20.out hb21)
      have HQ21 := Lib.hid ((hb21.block Q (Array.getElem?_eq_some_iff.1 HQ20.out).1).trans HQ20.out)
      clear HX20 HY20 HM20 HL20 HK20 HA20 HC20 HV15_20 HP20 HV17_20 HQ20
      have bel21 := bel20.trans (hb21.mono bel20.size)
      have HS21 := Lib.hid (same_below' HS20.out hb21)
      rw [show decide (tk ∈ l') = decide (tk ∈ k') from decide_eq_decide.2 HM3.out]
      obtain ⟨B, hB⟩ : ∃ B, decide (tk ∈ k') = B := ⟨_, rfl⟩
      rw [hB]
      clear hB
      have hBB : (B == B) = true := by simp
      have cP_0 := box_at HP21.out (j := 0) rfl
      have cQ_0 := box_at HQ21.out (j := 0) rfl
      go_wp2
      refine Txt.SegPost.mk (Txt.Ty.Shown.same HS21.out) ?_
      (try simp only [Txt.pick, List.getElem?_cons_succ, List.getElem?_cons_zero])
      go_wp2
      refine Txt.RunPost.mk ?_
      refine Txt.Ty.wpTr_done (by rfl) ⟨.head _, trivial⟩ ?_
      go_wp2
      go_ret
      exact ⟨rfl, bel21⟩
end Go.Proofs.Ytdelemmoiaiooaa
