/- time: TimeStep -/
import Derived.Test.YtdelemmoiaiooaaVa
namespace Go.Proofs.Ytdelemmoiaiooaa
open Go.RowKit Go.Bs Go.Cl Go.Rw Go.Ti Go.Wi
set_option maxRecDepth 100000 in
set_option maxHeartbeats 8000000 in
theorem steplaw_any (lv : Value) (l : List Int) (ms md mk mq m0 m1 m2 m3 : Int) (da : Option Addr) (dc : Nat) (d : List UInt8) (w : World) (hL : SlT w lv l) :
    Calls Try.prog 3 #[.agg #[lv], .agg #[.int .i64 ms, .int .i64 md, .int .i64 mk, .int .i64 mq, .int .i64 m0, .int .i64 m1, .int .i64 m2, .int .i64 m3, .slice da d.length dc]] w (RetOK w) := by
  obtain ⟨la, lc, rfl⟩ := Raw.slice hL
  obtain ⟨w1, hw1⟩ : ∃ W, W = (w.alloc (.cells #[.slice la l.length lc] 24)).alloc (.cells #[.int .i64 ms, .int .i64 md, .int .i64 mk, .int .i64 mq, .int .i64 m0, .int .i64 m1, .int .i64 m2, .int .i64 m3, .slice da d.length dc] 28) := ⟨_, rfl⟩
  have bel1 : Below w.heap.size w w1 := by rw [hw1]; exact ((Below.refl w.heap.size w).alloc (by simp) _).alloc (by simp) _
  have hx0 : w1.heap[w.heap.size]? = some (.cells #[.slice la l.length lc] 24 (0, 0)) := by rw [hw1]; exact a2_0 _ _ _ _ _
  obtain ⟨X, hX⟩ : ∃ M, M = w.heap.size := ⟨_, rfl⟩
  rw [← hX] at hx0
  have HX1 := Lib.hid (hx0)
  have hx1 : w1.heap[w.heap.size + 1]? = some (.cells #[.int .i64 ms, .int .i64 md, .int .i64 mk, .int .i64 mq, .int .i64 m0, .int .i64 m1, .int .i64 m2, .int .i64 m3, .slice da d.length dc] 28 (0, 0)) := by rw [hw1]; exact a2_1 _ _ _ _ _
  obtain ⟨M, hM⟩ : ∃ M, M = w.heap.size + 1 := ⟨_, rfl⟩
  rw [← hM] at hx1
  have HM1 := Lib.hid (hx1)
  have HRX := Lib.hid hX
  have HRM : Hid (M = X + 1) := Lib.hid (by omega)
  have HW := Lib.hid hw1
  clear hw1 hx0 hx1 hX hM
  have hL1 := hL.below bel1
  have HL1 := Lib.hid (hL1)
  clear hL hL1
  go_enter Try.func3, Try.ntmps3
  go_upto_region 1 with (fail)
  rw [← HW.out, ← HRX.out, ← HRM.out]
  clear HW HRX HRM
  go_wp2_with fail
  refine (awake_any _).mono ?_
  rintro e w2 ⟨rfl, hb2⟩
  have HX2 := Lib.hid ((hb2.block X (Array.getElem?_eq_some_iff.1 HX1.out).1).trans HX1.out)
  have HM2 := Lib.hid ((hb2.block M (Array.getElem?_eq_some_iff.1 HM1.out).1).trans HM1.out)
  have HL2 := Lib.hid (SlT.below HL1.out hb2)
  clear HX1 HM1 HL1
  have bel2 := bel1.trans (hb2.mono bel1.size)
  by_cases hc : l.length ≤ 60
  rotate_left
  · have cX_0 := box_at HX2.out (j := 0) rfl
    have cM_0 := box_at HM2.out (j := 0) rfl
    have cM_1 := box_at HM2.out (j := 1) rfl
    have cM_2 := box_at HM2.out (j := 2) rfl
    have cM_3 := box_at HM2.out (j := 3) rfl
    have cM_4 := box_at HM2.out (j := 4) rfl
    have cM_5 := box_at HM2.out (j := 5) rfl
    have cM_6 := box_at HM2.out (j := 6) rfl
    have cM_7 := box_at HM2.out (j := 7) rfl
    have cM_8 := box_at HM2.out (j := 8) rfl
    have hc' : (60 : Int) < (l.length : Int) := by omega
    go_wp2
    go_ret
    exact ⟨rfl, bel2⟩
  have Hcl := Lib.hid hc
  have hpl : (l.length : Int) ≤ 60 := by omega
  clear hc
  by_cases hc : d.length ≤ 1600
  rotate_left
  · have cX_0 := box_at HX2.out (j := 0) rfl
    have cM_0 := box_at HM2.out (j := 0) rfl
    have cM_1 := box_at HM2.out (j := 1) rfl
    have cM_2 := box_at HM2.out (j := 2) rfl
    have cM_3 := box_at HM2.out (j := 3) rfl
    have cM_4 := box_at HM2.out (j := 4) rfl
    have cM_5 := box_at HM2.out (j := 5) rfl
    have cM_6 := box_at HM2.out (j := 6) rfl
    have cM_7 := box_at HM2.out (j := 7) rfl
    have cM_8 := box_at HM2.out (j := 8) rfl
    have hc' : (1600 : Int) < (d.length : Int) := by omega
    go_wp2
    go_ret
    exact ⟨rfl, bel2⟩
  have Hcd := Lib.hid hc
  have hpd : (d.length : Int) ≤ 1600 := by omega
  clear hc
  have cX_0 := box_at HX2.out (j := 0) rfl
  have cM_0 := box_at HM2.out (j := 0) rfl
  have cM_1 := box_at HM2.out (j := 1) rfl
  have cM_2 := box_at HM2.out (j := 2) rfl
  have cM_3 := box_at HM2.out (j := 3) rfl
  have cM_4 := box_at HM2.out (j := 4) rfl
  have cM_5 := box_at HM2.out (j := 5) rfl
  have cM_6 := box_at HM2.out (j := 6) rfl
  have cM_7 := box_at HM2.out (j := 7) rfl
  have cM_8 := box_at HM2.out (j := 8) rfl
  go_wp2_with fail
  refine (rencode_any _ l _ (by have := Hcl.out; omega) HL2.out).mono ?_
  rintro e w3 ⟨v3, rfl, hr3, hb3⟩
  clear cX_0 cM_0 cM_1 cM_2 cM_3 cM_4 cM_5 cM_6 cM_7 cM_8
  have HX3 := Lib.hid ((hb3.block X (Array.getElem?_eq_some_iff.1 HX2.out).1).trans HX2.out)
  have HM3 := Lib.hid ((hb3.block M (Array.getElem?_eq_some_iff.1 HM2.out).1).trans HM2.out)
  have HL3 := Lib.hid (SlT.below HL2.out hb3)
  clear HX2 HM2 HL2
  have bel3 := bel2.trans (hb3.mono bel2.size)
  have HB3 := Lib.hid (RetB.raw hr3)
  obtain ⟨a3, c3, rfl⟩ := own_slice hr3
  clear hr3 hb3
  have hbl := encS_len (l := l)
  obtain ⟨b, hb⟩ : ∃ b, Ti.encS l = b := ⟨_, rfl⟩
  rw [hb] at HB3 hbl ⊢
  clear hb
  obtain ⟨SB, hSB⟩ : ∃ SB, stpT b ⟨ms, md, mk, mq, m0, m1, m2, m3⟩ = SB := ⟨_, rfl⟩
  have HSB := Lib.hid hSB
  clear hSB
  have cX_0 := box_at HX3.out (j := 0) rfl
  have cM_0 := box_at HM3.out (j := 0) rfl
  have cM_1 := box_at HM3.out (j := 1) rfl
  have cM_2 := box_at HM3.out (j := 2) rfl
  have cM_3 := box_at HM3.out (j := 3) rfl
  have cM_4 := box_at HM3.out (j := 4) rfl
  have cM_5 := box_at HM3.out (j := 5) rfl
  have cM_6 := box_at HM3.out (j := 6) rfl
  have cM_7 := box_at HM3.out (j := 7) rfl
  have cM_8 := box_at HM3.out (j := 8) rfl
  go_wp2_with fail
  refine (step_any _ (.slice da d.length dc) b ⟨ms, md, mk, mq, m0, m1, m2, m3⟩ _ HB3.out (by omega) ⟨_, _, _, rfl⟩).mono ?_
  rw [HSB.out]
  cases SB with
  | error c =>
    have hc : c = 4 ∨ c = 23 := stp_err HSB.out
    have e0 : (c != 0) = true := by simp; omega
    have e1 : (c == c) = true := by simp
    have HC := Lib.hid hc
    clear hc
    rintro e w4 ⟨hb4, rfl⟩
    clear cX_0 cM_0 cM_1 cM_2 cM_3 cM_4 cM_5 cM_6 cM_7 cM_8
    have HX4 := Lib.hid ((hb4.block X (Array.getElem?_eq_some_iff.1 HX3.out).1).trans HX3.out)
    have HM4 := Lib.hid ((hb4.block M (Array.getElem?_eq_some_iff.1 HM3.out).1).trans HM3.out)
    have HL4 := Lib.hid (SlT.below HL3.out hb4)
    have HB4 := Lib.hid (Raw.below HB3.out hb4)
    clear HX3 HM3 HL3 HB3
    have bel4 := bel3.trans (hb4.mono bel3.size)
    clear hb4
    have cX_0 := box_at HX4.out (j := 0) rfl
    have cM_0 := box_at HM4.out (j := 0) rfl
    have cM_1 := box_at HM4.out (j := 1) rfl
    have cM_2 := box_at HM4.out (j := 2) rfl
    have cM_3 := box_at HM4.out (j := 3) rfl
    have cM_4 := box_at HM4.out (j := 4) rfl
    have cM_5 := box_at HM4.out (j := 5) rfl
    have cM_6 := box_at HM4.out (j := 6) rfl
    have cM_7 := box_at HM4.out (j := 7) rfl
    have cM_8 := box_at HM4.out (j := 8) rfl
    go_wp2_with fail
    refine (rstep_any _ (.slice da d.length dc) b ⟨ms, md, mk, mq, m0, m1, m2, m3⟩ _ HB4.out (by omega) ⟨_, _, _, rfl⟩).mono ?_
    rw [HSB.out]
    rintro e w5 ⟨hb5, rfl⟩
    clear cX_0 cM_0 cM_1 cM_2 cM_3 cM_4 cM_5 cM_6 cM_7 cM_8
    have HX5 := Lib.hid ((hb5.block X (Array.getElem?_eq_some_iff.1 HX4.out).1).trans HX4.out)
    have HM5 := Lib.hid ((hb5.block M (Array.getElem?_eq_some_iff.1 HM4.out).1).trans HM4.out)
    have HL5 := Lib.hid (SlT.below HL4.out hb5)
    have HB5 := Lib.hid (Raw.below HB4.out hb5)
    clear HX4 HM4 HL4 HB4
    have bel5 := bel4.trans (hb5.mono bel4.size)
    clear hb5
    go_wp2_with fail
    refine (same_nil _).mono ?_
    rintro e w' ⟨rfl, rfl⟩
    go_wp2_with fail
    refine (sameeff_any _ _ [] _ (by simp) (Raw.empty _ _ _) (Raw.empty _ _ _)).mono ?_
    rintro e w6 ⟨rfl, hb6⟩
    have HX6 := Lib.hid ((hb6.block X (Array.getElem?_eq_some_iff.1 HX5.out).1).trans HX5.out)
    have HM6 := Lib.hid ((hb6.block M (Array.getElem?_eq_some_iff.1 HM5.out).1).trans HM5.out)
    have HL6 := Lib.hid (SlT.below HL5.out hb6)
    have HB6 := Lib.hid (Raw.below HB5.out hb6)
    clear HX5 HM5 HL5 HB5
    have bel6 := bel5.trans (hb6.mono bel5.size)
    go_wp2_with fail
    refine (decode_any _ [] _ (Raw.empty _ _ _) (by simp)).mono ?_
    rw [decT_nil]
    rintro e w7 ⟨v7, rfl, hr7, hb7⟩
    have HX7 := Lib.hid ((hb7.block X (Array.getElem?_eq_some_iff.1 HX6.out).1).trans HX6.out)
    have HM7 := Lib.hid ((hb7.block M (Array.getElem?_eq_some_iff.1 HM6.out).1).trans HM6.out)
    have HL7 := Lib.hid (SlT.below HL6.out hb7)
    have HB7 := Lib.hid (Raw.below HB6.out hb7)
    clear HX6 HM6 HL6 HB6
    have bel7 := bel6.trans (hb7.mono bel6.size)
    obtain ⟨a7, c7, rfl⟩ := own_slice hr7
    clear hr7 hb7
    have hal7 := (Below.refl w7.heap.size w7).alloc (Nat.le_refl _) (.cells #[.slice a7 ([] : List Int).length c7] 37)
    go_wp2
    go_ret
    exact ⟨rfl, bel7.trans (hal7.mono bel7.size)⟩
  | ok p =>
    obtain ⟨l', es⟩ := p
    have HVL := Lib.hid (stp_valid HSB.out)
    have hes := stp_es HSB.out
    have hel := encS_len (l := l')
    rintro e w4 ⟨hb4, iv4, ev4, rfl, hr4, hE4⟩
    clear cX_0 cM_0 cM_1 cM_2 cM_3 cM_4 cM_5 cM_6 cM_7 cM_8
    have HX4 := Lib.hid ((hb4.block X (Array.getElem?_eq_some_iff.1 HX3.out).1).trans HX3.out)
    have HM4 := Lib.hid ((hb4.block M (Array.getElem?_eq_some_iff.1 HM3.out).1).trans HM3.out)
    have HL4 := Lib.hid (SlT.below HL3.out hb4)
    have HB4 := Lib.hid (Raw.below HB3.out hb4)
    clear HX3 HM3 HL3 HB3
    have bel4 := bel3.trans (hb4.mono bel3.size)
    have HA4 := Lib.hid (RetB.raw hr4)
    have HE4 := Lib.hid (hE4)
    obtain ⟨ia4, ic4, rfl⟩ := own_slice hr4
    obtain ⟨ea4, ec4, rfl⟩ := Raw.slice hE4
    clear hb4 hr4 hE4
    have cX_0 := box_at HX4.out (j := 0) rfl
    have cM_0 := box_at HM4.out (j := 0) rfl
    have cM_1 := box_at HM4.out (j := 1) rfl
    have cM_2 := box_at HM4.out (j := 2) rfl
    have cM_3 := box_at HM4.out (j := 3) rfl
    have cM_4 := box_at HM4.out (j := 4) rfl
    have cM_5 := box_at HM4.out (j := 5) rfl
    have cM_6 := box_at HM4.out (j := 6) rfl
    have cM_7 := box_at HM4.out (j := 7) rfl
    have cM_8 := box_at HM4.out (j := 8) rfl
    go_wp2_with fail
    refine (rstep_any _ (.slice da d.length dc) b ⟨ms, md, mk, mq, m0, m1, m2, m3⟩ _ HB4.out (by omega) ⟨_, _, _, rfl⟩).mono ?_
    rw [HSB.out]
    rintro e w5 ⟨hb5, iv5, ev5, rfl, hr5, hE5⟩
    clear cX_0 cM_0 cM_1 cM_2 cM_3 cM_4 cM_5 cM_6 cM_7 cM_8
    have HX5 := Lib.hid ((hb5.block X (Array.getElem?_eq_some_iff.1 HX4.out).1).trans HX4.out)
    have HM5 := Lib.hid ((hb5.block M (Array.getElem?_eq_some_iff.1 HM4.out).1).trans HM4.out)
    have HL5 := Lib.hid (SlT.below HL4.out hb5)
    have HB5 := Lib.hid (Raw.below HB4.out hb5)
    have HA5 := Lib.hid (Raw.below HA4.out hb5)
    have HE5 := Lib.hid (SlE.below HE4.out hb5)
    clear HX4 HM4 HL4 HB4 HA4 HE4
    have bel5 := bel4.trans (hb5.mono bel4.size)
    have HC5 := Lib.hid (RetB.raw hr5)
    have HG5 := Lib.hid (hE5)
    obtain ⟨ia5, ic5, rfl⟩ := own_slice hr5
    obtain ⟨ea5, ec5, rfl⟩ := Raw.slice hE5
    clear hb5 hr5 hE5
    go_wp2_with fail
    refine (same_any _ _ _ _ _ HA5.out HC5.out).mono ?_
    rintro e w' ⟨rfl, rfl⟩
    simp only [decide_true]
    go_wp2_with fail
    refine (sameeff_any _ _ es _ (by omega) HE5.out HG5.out).mono ?_
    rintro e w6 ⟨rfl, hb6⟩
    have HX6 := Lib.hid ((hb6.block X (Array.getElem?_eq_some_iff.1 HX5.out).1).trans HX5.out)
    have HM6 := Lib.hid ((hb6.block M (Array.getElem?_eq_some_iff.1 HM5.out).1).trans HM5.out)
    have HL6 := Lib.hid (SlT.below HL5.out hb6)
    have HB6 := Lib.hid (Raw.below HB5.out hb6)
    have HA6 := Lib.hid (Raw.below HA5.out hb6)
    have HE6 := Lib.hid (SlE.below HE5.out hb6)
    have HC6 := Lib.hid (Raw.below HC5.out hb6)
    have HG6 := Lib.hid (SlE.below HG5.out hb6)
    clear HX5 HM5 HL5 HB5 HA5 HE5 HC5 HG5
    have bel6 := bel5.trans (hb6.mono bel5.size)
    go_wp2_with fail
    refine (decode_any _ (Ti.encS l') _ HA6.out (by omega)).mono ?_
    rw [decT_encS, HVL.out]
    rintro e w7 ⟨v7, rfl, hr7, hb7⟩
    have HX7 := Lib.hid ((hb7.block X (Array.getElem?_eq_some_iff.1 HX6.out).1).trans HX6.out)
    have HM7 := Lib.hid ((hb7.block M (Array.getElem?_eq_some_iff.1 HM6.out).1).trans HM6.out)
    have HL7 := Lib.hid (SlT.below HL6.out hb7)
    have HB7 := Lib.hid (Raw.below HB6.out hb7)
    have HA7 := Lib.hid (Raw.below HA6.out hb7)
    have HE7 := Lib.hid (SlE.below HE6.out hb7)
    have HC7 := Lib.hid (Raw.below HC6.out hb7)
    have HG7 := Lib.hid (SlE.below HG6.out hb7)
    clear HX6 HM6 HL6 HB6 HA6 HE6 HC6 HG6
    have bel7 := bel6.trans (hb7.mono bel6.size)
    obtain ⟨a7, c7, rfl⟩ := own_slice hr7
    clear hr7 hb7
    have hal7 := (Below.refl w7.heap.size w7).alloc (Nat.le_refl _) (.cells #[.slice a7 l'.length c7] 37)
    go_wp2
    go_ret
    exact ⟨rfl, bel7.trans (hal7.mono bel7.size)⟩
end Go.Proofs.Ytdelemmoiaiooaa
