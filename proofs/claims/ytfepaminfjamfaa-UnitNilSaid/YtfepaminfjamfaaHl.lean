/- UnitNil -/
import Derived.Test.YtfepaminfjamfaaHk
namespace Go.Proofs.Ytfepaminfjamfaa
open Go.RowKit Go.Bs Go.Cl Go.Rw Go.Un Go.Im Go.Fa
set_option maxRecDepth 100000 in
set_option maxHeartbeats 40000000 in
theorem nil_any (ms md mk mq m0 m1 m2 m3 : Int) (ma : Option Addr) (ml mc : Nat) (t : Int) (w : World) : Calls Try.prog 4 #[.agg #[.int .i64 ms, .int .i64 md, .int .i64 mk, .int .i64 mq, .int .i64 m0, .int .i64 m1, .int .i64 m2, .int .i64 m3, .slice ma ml mc], .int .i64 t] w fun e w' => e = .returned (.bool true) ∧ Below w.heap.size w w' := by
  obtain ⟨mv, hmv⟩ : ∃ v, v = Value.slice ma ml mc := ⟨_, rfl⟩
  rw [← hmv]
  clear hmv
  obtain ⟨M, hM⟩ : ∃ M, M = w.heap.size := ⟨_, rfl⟩
  obtain ⟨w1, hw1⟩ : ∃ W, W = w.alloc (.cells #[.int .i64 ms, .int .i64 md, .int .i64 mk, .int .i64 mq, .int .i64 m0, .int .i64 m1, .int .i64 m2, .int .i64 m3, mv] 27) := ⟨_, rfl⟩
  have HW := Lib.hid hw1
  have hb1 : Below w.heap.size w w1 := by rw [hw1]; exact (Below.refl _ w).alloc (Nat.le_refl _) _
  have HL1 := Lib.hid hb1
  have HM1 : Hid (w1.heap[M]? = some (.cells #[.int .i64 ms, .int .i64 md, .int .i64 mk, .int .i64 mq, .int .i64 m0, .int .i64 m1, .int .i64 m2, .int .i64 m3, mv] 27 (0, 0))) := Lib.hid (by rw [hw1, hM]; exact heap_alloc_new w _)
  have hM1 : M < w1.heap.size := (Array.getElem?_eq_some_iff.1 HM1.out).1
  clear hw1 hb1
  go_enter Try.func4, Try.ntmps4
  go_upto_region 1 with (fail)
  rw [← HW.out, ← hM]
  clear hM HW
  go_wp2_with fail
  refine (awake_any _).mono ?_
  rintro e w2 ⟨rfl, hb⟩
  have HL2 := Lib.hid (HL1.out.trans (hb.mono HL1.out.size))
  have HM2 := Lib.hid ((hb.block M hM1).trans HM1.out)
  have hM2 : M < w2.heap.size := by have := hb.size; omega
  clear hb HL1 HM1 hM1
  have m_0 : w2.cell? ⟨M, 0, none⟩ = some (.int .i64 ms) := box_at HM2.out rfl
  have m_1 : w2.cell? ⟨M, 1, none⟩ = some (.int .i64 md) := box_at HM2.out rfl
  have m_2 : w2.cell? ⟨M, 2, none⟩ = some (.int .i64 mk) := box_at HM2.out rfl
  have m_3 : w2.cell? ⟨M, 3, none⟩ = some (.int .i64 mq) := box_at HM2.out rfl
  have m_4 : w2.cell? ⟨M, 4, none⟩ = some (.int .i64 m0) := box_at HM2.out rfl
  have m_5 : w2.cell? ⟨M, 5, none⟩ = some (.int .i64 m1) := box_at HM2.out rfl
  have m_6 : w2.cell? ⟨M, 6, none⟩ = some (.int .i64 m2) := box_at HM2.out rfl
  have m_7 : w2.cell? ⟨M, 7, none⟩ = some (.int .i64 m3) := box_at HM2.out rfl
  have m_8 : w2.cell? ⟨M, 8, none⟩ = some (mv) := box_at HM2.out rfl
  go_wp2_with fail
  refine (see_nil _ ms md mk mq m0 m1 m2 m3 mv).mono ?_
  rintro e w3 ⟨rfl, hb⟩
  have HL3 := Lib.hid (HL2.out.trans (hb.mono HL2.out.size))
  have HM3 := Lib.hid ((hb.block M hM2).trans HM2.out)
  have hM3 : M < w3.heap.size := by have := hb.size; omega
  clear hb HL2 HM2 hM2
  clear m_0 m_1 m_2 m_3 m_4 m_5 m_6 m_7 m_8
  have m_0 : w3.cell? ⟨M, 0, none⟩ = some (.int .i64 ms) := box_at HM3.out rfl
  have m_1 : w3.cell? ⟨M, 1, none⟩ = some (.int .i64 md) := box_at HM3.out rfl
  have m_2 : w3.cell? ⟨M, 2, none⟩ = some (.int .i64 mk) := box_at HM3.out rfl
  have m_3 : w3.cell? ⟨M, 3, none⟩ = some (.int .i64 mq) := box_at HM3.out rfl
  have m_4 : w3.cell? ⟨M, 4, none⟩ = some (.int .i64 m0) := box_at HM3.out rfl
  have m_5 : w3.cell? ⟨M, 5, none⟩ = some (.int .i64 m1) := box_at HM3.out rfl
  have m_6 : w3.cell? ⟨M, 6, none⟩ = some (.int .i64 m2) := box_at HM3.out rfl
  have m_7 : w3.cell? ⟨M, 7, none⟩ = some (.int .i64 m3) := box_at HM3.out rfl
  have m_8 : w3.cell? ⟨M, 8, none⟩ = some (mv) := box_at HM3.out rfl
  go_wp2_with fail
  refine (finish_nil _ ms md mk mq m0 m1 m2 m3 mv).mono ?_
  rintro e w4 ⟨rfl, hb⟩
  have HL4 := Lib.hid (HL3.out.trans (hb.mono HL3.out.size))
  have HM4 := Lib.hid ((hb.block M hM3).trans HM3.out)
  have hM4 : M < w4.heap.size := by have := hb.size; omega
  clear hb HL3 HM3 hM3
  clear m_0 m_1 m_2 m_3 m_4 m_5 m_6 m_7 m_8
  go_upto_region 6 with (fail)
  have hb : Below w4.heap.size w4 (w4.alloc (.cells #[.int .i64 0, .int .i64 0] 49)) := (Below.refl _ w4).alloc (Nat.le_refl _) _
  obtain ⟨V, hV⟩ : ∃ V, V = w4.heap.size := ⟨_, rfl⟩
  obtain ⟨w5, hw5⟩ : ∃ W, W = w4.alloc (.cells #[.int .i64 0, .int .i64 0] 49) := ⟨_, rfl⟩
  rw [← hw5] at hb
  rw [← hw5, ← hV]
  clear hw5 hV
  have HL5 := Lib.hid (HL4.out.trans (hb.mono HL4.out.size))
  have HM5 := Lib.hid ((hb.block M hM4).trans HM4.out)
  have hM5 : M < w5.heap.size := by have := hb.size; omega
  clear hb HL4 HM4 hM4
  go_wp2_with fail
  refine (restart_nil _ 0).mono ?_
  rintro e w' ⟨rfl, rfl⟩
  go_wp2_with fail
  refine (utask_nil _).mono ?_
  rintro e w' ⟨rfl, rfl⟩
  go_wp2_with fail
  refine (uimage_nil _).mono ?_
  rintro e w' ⟨rfl, rfl⟩
  go_wp2_with fail
  refine (uversion_nil _).mono ?_
  rintro e w' ⟨rfl, rfl⟩
  go_wp2_with fail
  refine (unumber_nil _).mono ?_
  rintro e w' ⟨rfl, rfl⟩
  go_wp2_with fail
  refine (uattempt_nil _).mono ?_
  rintro e w' ⟨rfl, rfl⟩
  go_wp2_with fail
  refine (uinst_nil _).mono ?_
  rintro e w6 ⟨rfl, hb⟩
  have HL6 := Lib.hid (HL5.out.trans (hb.mono HL5.out.size))
  have HM6 := Lib.hid ((hb.block M hM5).trans HM5.out)
  have hM6 : M < w6.heap.size := by have := hb.size; omega
  clear hb HL5 HM5 hM5
  have hg57 := eg57
  go_wp2_with fail
  refine (uledger_nil _).mono ?_
  rintro e w' ⟨rfl, rfl⟩
  go_wp2_with fail
  refine (udown_nil _).mono ?_
  rintro e w' ⟨rfl, rfl⟩
  go_wp2_with fail
  refine (ulost_nil _).mono ?_
  rintro e w' ⟨rfl, rfl⟩
  go_wp2_with fail
  refine (clone_nil _).mono ?_
  rintro e w' ⟨rfl, rfl⟩
  go_upto_region 9 with (fail)
  by_cases ht : 1 ≤ t ∧ t ≤ 10
  · obtain ⟨ht1, ht2⟩ := ht
    go_wp2_with fail
    refine (unew_ok t _ [] w _ ht1 ht2 (by simp) HL6.out (Raw.empty _ _ _)).mono ?_
    rintro e w7 ⟨u, rfl, hU⟩
    have HLx : Hid (Below w.heap.size w w7) := Lib.hid hU.1
    clear hU
    go_wp2_with (refine wpList_make el22 w7.heap.size 24001 rfl _ _ rfl rfl rfl rfl rfl ?c1 ?c2 (Nat.le_refl _) ?_)
    case c1 => omega
    case c2 => unfold maxLen; omega
    intro w8 hown hgrow hsz
    have hb8 : Below w7.heap.size w7 w8 := (Below.refl _ _).grown hgrow (Nat.le_refl _) (fun k h => by cases h)
    have HL8 := Lib.hid (HLx.out.trans (hb8.mono HLx.out.size))
    clear hown hgrow hsz hb8
    go_wp2_with fail
    refine (unew_big 1 _ 24001 _ (by omega) (by omega) (by omega) ⟨_, _, rfl⟩).mono ?_
    rintro e w' ⟨rfl, rfl⟩
    go_wp2
    go_ret
    exact ⟨rfl, HL8.out⟩
  · have h1 : t < 1 ∨ 10 < t := by omega
    have HH := Lib.hid h1
    have HLx := HL6
    by_cases h2 : t < 1
    · have h3 : ¬ 1 ≤ t := by omega
      have h3' : ¬ t ≥ 1 := by omega
      clear h1 ht
      go_wp2_with fail
      refine (unew_task t _ _ HH.out).mono ?_
      rintro e w7 ⟨rfl, rfl⟩
      go_wp2_with (refine wpList_make el22 w6.heap.size 24001 rfl _ _ rfl rfl rfl rfl rfl ?c1 ?c2 (Nat.le_refl _) ?_)
      case c1 => omega
      case c2 => unfold maxLen; omega
      intro w8 hown hgrow hsz
      have hb8 : Below w6.heap.size w6 w8 := (Below.refl _ _).grown hgrow (Nat.le_refl _) (fun k h => by cases h)
      have HL8 := Lib.hid (HLx.out.trans (hb8.mono HLx.out.size))
      clear hown hgrow hsz hb8
      go_wp2_with fail
      refine (unew_big 1 _ 24001 _ (by omega) (by omega) (by omega) ⟨_, _, rfl⟩).mono ?_
      rintro e w' ⟨rfl, rfl⟩
      go_wp2
      go_ret
      exact ⟨rfl, HL8.out⟩
    · have h3 : 10 < t := by omega
      have h4 : 1 ≤ t := by omega
      have h5 : ¬ t ≤ 10 := by omega
      clear h1 ht
      go_wp2_with fail
      refine (unew_task t _ _ HH.out).mono ?_
      rintro e w7 ⟨rfl, rfl⟩
      go_wp2_with (refine wpList_make el22 w6.heap.size 24001 rfl _ _ rfl rfl rfl rfl rfl ?c1 ?c2 (Nat.le_refl _) ?_)
      case c1 => omega
      case c2 => unfold maxLen; omega
      intro w8 hown hgrow hsz
      have hb8 : Below w6.heap.size w6 w8 := (Below.refl _ _).grown hgrow (Nat.le_refl _) (fun k h => by cases h)
      have HL8 := Lib.hid (HLx.out.trans (hb8.mono HLx.out.size))
      clear hown hgrow hsz hb8
      go_wp2_with fail
      refine (unew_big 1 _ 24001 _ (by omega) (by omega) (by omega) ⟨_, _, rfl⟩).mono ?_
      rintro e w' ⟨rfl, rfl⟩
      go_wp2
      go_ret
      exact ⟨congrArg (fun b => Ending.returned (Value.bool b)) (show (!decide (t ≤ 10)) = true by simp; omega), HL8.out⟩
end Go.Proofs.Ytfepaminfjamfaa
