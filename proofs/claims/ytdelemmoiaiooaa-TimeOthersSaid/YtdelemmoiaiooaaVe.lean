/- time: TimeOthers -/
import Derived.Test.YtdelemmoiaiooaaVd
namespace Go.Proofs.Ytdelemmoiaiooaa
open Go.RowKit Go.Bs Go.Cl Go.Rw Go.Ti Go.Wi
set_option maxRecDepth 100000 in
set_option maxHeartbeats 8000000 in
theorem others_any (lv : Value) (l : List Int) (ms md mk mq m0 m1 m2 m3 o : Int) (da : Option Addr) (dc : Nat) (d : List UInt8) (w : World) (hL : SlT w lv l) :
    Calls Try.prog 6 #[.agg #[lv], .agg #[.int .i64 ms, .int .i64 md, .int .i64 mk, .int .i64 mq, .int .i64 m0, .int .i64 m1, .int .i64 m2, .int .i64 m3, .slice da d.length dc], .int .i64 o] w (RetOK w) := by
  obtain ⟨la, lc, rfl⟩ := Raw.slice hL
  obtain ⟨w1, hw1⟩ : ∃ W, W = (w.alloc (.cells #[.slice la l.length lc] 24)).alloc (.cells #[.int .i64 ms, .int .i64 md, .int .i64 mk, .int .i64 mq, .int .i64 m0, .int .i64 m1, .int .i64 m2, .int .i64 m3, .slice da d.length dc] 28) := ⟨_, rfl⟩
  have bel1 : Below w.heap.size w w1 := by rw [hw1]; exact ((Below.refl w.heap.size w).alloc (by simp) _).alloc (by simp) _
  have hx0 : w1.heap[w.heap.size]? = some (.cells #[.slice la l.length lc] 24 (0, 0)) := by rw [hw1]; exact a2_0 _ _ _ _ _
  obtain ⟨X, hX⟩ : ∃ M, M = w.heap.size := ⟨_, rfl⟩
  rw [← hX] at hx0
  have HX1 := Lib.hid (hx0)
  have hx1 : w1.heap[w.heap.size + 1]? = some (.cells #[.int .i64 ms, .int .i64 md, .int .i64 mk, .int .i64 mq, .int .i64 m0, .int .i64 m1, .int .i64 m2, .int .i64 m3, .slice da d.length dc] 28 (0, 0)) := by rw [hw1]; exact a2_1 _ _ _ _ _
  obtain ⟨M, hM⟩ : ∃ M, M = w.heap.size + 1 := ⟨_, rfl⟩
  rw [← hM] at hx1
  have HM1 := Lib.hid (hx1)
  have HRX := Lib.hid hX
  have HRM : Hid (M = X + 1) := Lib.hid (by omega)
  have HW := Lib.hid hw1
  clear hw1 hx0 hx1 hX hM
  have hL1 := hL.below bel1
  have HL1 := Lib.hid (hL1)
  clear hL hL1
  go_enter Try.func6, Try.ntmps6
  go_upto_region 1 with (fail)
  rw [← HW.out, ← HRX.out, ← HRM.out]
  clear HW HRX HRM
  go_wp2_with fail
  refine (awake_any _).mono ?_
  rintro e w2 ⟨rfl, hb2⟩
  have HX2 := Lib.hid ((hb2.block X (Array.getElem?_eq_some_iff.1 HX1.out).1).trans HX1.out)
  have HM2 := Lib.hid ((hb2.block M (Array.getElem?_eq_some_iff.1 HM1.out).1).trans HM1.out)
  have HL2 := Lib.hid (SlT.below HL1.out hb2)
  clear HX1 HM1 HL1
  have bel2 := bel1.trans (hb2.mono bel1.size)
  by_cases hcl : l.length ≤ 60
  rotate_left
  · have cX_0 := box_at HX2.out (j := 0) rfl
    have cM_0 := box_at HM2.out (j := 0) rfl
    have cM_1 := box_at HM2.out (j := 1) rfl
    have cM_2 := box_at HM2.out (j := 2) rfl
    have cM_3 := box_at HM2.out (j := 3) rfl
    have cM_4 := box_at HM2.out (j := 4) rfl
    have cM_5 := box_at HM2.out (j := 5) rfl
    have cM_6 := box_at HM2.out (j := 6) rfl
    have cM_7 := box_at HM2.out (j := 7) rfl
    have cM_8 := box_at HM2.out (j := 8) rfl
    have hcl' : (60 : Int) < (l.length : Int) := by omega
    go_wp2
    go_ret
    exact ⟨rfl, bel2⟩
  have Hcl := Lib.hid hcl
  have hpl : (l.length : Int) ≤ 60 := by omega
  clear hcl
  by_cases hcd : d.length ≤ 1600
  rotate_left
  · have cX_0 := box_at HX2.out (j := 0) rfl
    have cM_0 := box_at HM2.out (j := 0) rfl
    have cM_1 := box_at HM2.out (j := 1) rfl
    have cM_2 := box_at HM2.out (j := 2) rfl
    have cM_3 := box_at HM2.out (j := 3) rfl
    have cM_4 := box_at HM2.out (j := 4) rfl
    have cM_5 := box_at HM2.out (j := 5) rfl
    have cM_6 := box_at HM2.out (j := 6) rfl
    have cM_7 := box_at HM2.out (j := 7) rfl
    have cM_8 := box_at HM2.out (j := 8) rfl
    have hcd' : (1600 : Int) < (d.length : Int) := by omega
    go_wp2
    go_ret
    exact ⟨rfl, bel2⟩
  have Hcd := Lib.hid hcd
  have hpd : (d.length : Int) ≤ 1600 := by omega
  clear hcd
  by_cases h16 : 16 ≤ o
  rotate_left
  · have cX_0 := box_at HX2.out (j := 0) rfl
    have cM_0 := box_at HM2.out (j := 0) rfl
    have cM_1 := box_at HM2.out (j := 1) rfl
    have cM_2 := box_at HM2.out (j := 2) rfl
    have cM_3 := box_at HM2.out (j := 3) rfl
    have cM_4 := box_at HM2.out (j := 4) rfl
    have cM_5 := box_at HM2.out (j := 5) rfl
    have cM_6 := box_at HM2.out (j := 6) rfl
    have cM_7 := box_at HM2.out (j := 7) rfl
    have cM_8 := box_at HM2.out (j := 8) rfl
    have h16' : o < 16 := by omega
    go_wp2
    go_ret
    exact ⟨rfl, bel2⟩
  by_cases h32 : o < 32
  rotate_left
  · have cX_0 := box_at HX2.out (j := 0) rfl
    have cM_0 := box_at HM2.out (j := 0) rfl
    have cM_1 := box_at HM2.out (j := 1) rfl
    have cM_2 := box_at HM2.out (j := 2) rfl
    have cM_3 := box_at HM2.out (j := 3) rfl
    have cM_4 := box_at HM2.out (j := 4) rfl
    have cM_5 := box_at HM2.out (j := 5) rfl
    have cM_6 := box_at HM2.out (j := 6) rfl
    have cM_7 := box_at HM2.out (j := 7) rfl
    have cM_8 := box_at HM2.out (j := 8) rfl
    have h32' : 32 ≤ o := by omega
    go_wp2
    go_ret
    exact ⟨rfl, bel2⟩
  by_cases hs : o ≠ ms
  rotate_left
  · have cX_0 := box_at HX2.out (j := 0) rfl
    have cM_0 := box_at HM2.out (j := 0) rfl
    have cM_1 := box_at HM2.out (j := 1) rfl
    have cM_2 := box_at HM2.out (j := 2) rfl
    have cM_3 := box_at HM2.out (j := 3) rfl
    have cM_4 := box_at HM2.out (j := 4) rfl
    have cM_5 := box_at HM2.out (j := 5) rfl
    have cM_6 := box_at HM2.out (j := 6) rfl
    have cM_7 := box_at HM2.out (j := 7) rfl
    have cM_8 := box_at HM2.out (j := 8) rfl
    have hs' : o = ms := Classical.not_not.1 hs
    subst hs'
    have eoo : (o == o) = true := by simp
    go_wp2
    go_ret
    exact ⟨rfl, bel2⟩
  by_cases ha : o ≠ m0
  rotate_left
  · have cX_0 := box_at HX2.out (j := 0) rfl
    have cM_0 := box_at HM2.out (j := 0) rfl
    have cM_1 := box_at HM2.out (j := 1) rfl
    have cM_2 := box_at HM2.out (j := 2) rfl
    have cM_3 := box_at HM2.out (j := 3) rfl
    have cM_4 := box_at HM2.out (j := 4) rfl
    have cM_5 := box_at HM2.out (j := 5) rfl
    have cM_6 := box_at HM2.out (j := 6) rfl
    have cM_7 := box_at HM2.out (j := 7) rfl
    have cM_8 := box_at HM2.out (j := 8) rfl
    have ha' : o = m0 := Classical.not_not.1 ha
    subst ha'
    have eoo : (o == o) = true := by simp
    go_wp2
    go_ret
    exact ⟨rfl, bel2⟩
  have cX_0 := box_at HX2.out (j := 0) rfl
  have cM_0 := box_at HM2.out (j := 0) rfl
  have cM_1 := box_at HM2.out (j := 1) rfl
  have cM_2 := box_at HM2.out (j := 2) rfl
  have cM_3 := box_at HM2.out (j := 3) rfl
  have cM_4 := box_at HM2.out (j := 4) rfl
  have cM_5 := box_at HM2.out (j := 5) rfl
  have cM_6 := box_at HM2.out (j := 6) rfl
  have cM_7 := box_at HM2.out (j := 7) rfl
  have cM_8 := box_at HM2.out (j := 8) rfl
  have HU : Hid (usr o = true) := Lib.hid (by simp [usr]; omega)
  have Hs := Lib.hid hs
  have Ha := Lib.hid ha
  have eos : (o == ms) = false := by simp [hs]
  have eoa : (o == m0) = false := by simp [ha]
  go_wp2_with fail
  refine (rencode_any _ l _ (by have := Hcl.out; omega) HL2.out).mono ?_
  rintro e w3 ⟨v3, rfl, hr3, hb3⟩
  clear cX_0 cM_0 cM_1 cM_2 cM_3 cM_4 cM_5 cM_6 cM_7 cM_8
  have HX3 := Lib.hid ((hb3.block X (Array.getElem?_eq_some_iff.1 HX2.out).1).trans HX2.out)
  have HM3 := Lib.hid ((hb3.block M (Array.getElem?_eq_some_iff.1 HM2.out).1).trans HM2.out)
  have HL3 := Lib.hid (SlT.below HL2.out hb3)
  clear HX2 HM2 HL2
  have bel3 := bel2.trans (hb3.mono bel2.size)
  clear h16 h32 hs ha hpl hpd eos eoa
  have HB3 := Lib.hid (RetB.raw hr3)
  obtain ⟨a3, c3, rfl⟩ := own_slice hr3
  clear hr3 hb3
  have cX_0 := box_at HX3.out (j := 0) rfl
  have cM_0 := box_at HM3.out (j := 0) rfl
  have cM_1 := box_at HM3.out (j := 1) rfl
  have cM_2 := box_at HM3.out (j := 2) rfl
  have cM_3 := box_at HM3.out (j := 3) rfl
  have cM_4 := box_at HM3.out (j := 4) rfl
  have cM_5 := box_at HM3.out (j := 5) rfl
  have cM_6 := box_at HM3.out (j := 6) rfl
  have cM_7 := box_at HM3.out (j := 7) rfl
  have cM_8 := box_at HM3.out (j := 8) rfl
  obtain ⟨SB, hSB⟩ : ∃ SB, stpT (Ti.encS l) ⟨ms, md, mk, mq, m0, m1, m2, m3⟩ = SB := ⟨_, rfl⟩
  have HSB := Lib.hid hSB
  clear hSB
  go_wp2_with fail
  refine (step_any _ (.slice da d.length dc) (Ti.encS l) ⟨ms, md, mk, mq, m0, m1, m2, m3⟩ _ HB3.out (by have := encS_len (l := l); omega) ⟨_, _, _, rfl⟩).mono ?_
  rw [HSB.out]
  cases SB with
  | error c =>
    have hc : c ≠ 0 := by have := stp_err HSB.out; omega
    rintro e w4 ⟨hb4, rfl⟩
    clear cX_0 cM_0 cM_1 cM_2 cM_3 cM_4 cM_5 cM_6 cM_7 cM_8
    have HX4 := Lib.hid ((hb4.block X (Array.getElem?_eq_some_iff.1 HX3.out).1).trans HX3.out)
    have HM4 := Lib.hid ((hb4.block M (Array.getElem?_eq_some_iff.1 HM3.out).1).trans HM3.out)
    have HL4 := Lib.hid (SlT.below HL3.out hb4)
    have HB4 := Lib.hid (Raw.below HB3.out hb4)
    clear HX3 HM3 HL3 HB3
    have bel4 := bel3.trans (hb4.mono bel3.size)
    clear hb4
    go_wp2
    go_ret
    exact ⟨rfl, bel4⟩
  | ok p =>
    obtain ⟨l', es⟩ := p
    have HT := Lib.hid (stp_enc HSB.out)
    have hmem : (o ∈ l' ↔ o ∈ l) := take_other HT.out.2 Hs.out Ha.out
    have hv' := valid_take HT.out.1 HT.out.2
    have S1 := Lib.hid (stp_of (m := ⟨0, 10, 4, 0, o, 9, 0, 0⟩) HT.out.1 (take_alarm HU.out))
    have S2 := stp_of (m := ⟨0, 10, 4, 0, o, 9, 0, 0⟩) hv' (take_alarm HU.out)
    simp only [hmem] at S2
    have S2 := Lib.hid S2
    clear hmem hv'
    obtain ⟨fs, hfs⟩ : ∃ fs, (if o ∈ l then [reply o 0] else []) = fs := ⟨_, rfl⟩
    have HFL : Hid (fs.length ≤ 1) := Lib.hid (by rw [← hfs]; split <;> simp)
    rw [hfs] at S1 S2
    clear hfs
    rintro e w4 ⟨hb4, iv4, ev4, rfl, hr4, hE4⟩
    clear cX_0 cM_0 cM_1 cM_2 cM_3 cM_4 cM_5 cM_6 cM_7 cM_8
    have HX4 := Lib.hid ((hb4.block X (Array.getElem?_eq_some_iff.1 HX3.out).1).trans HX3.out)
    have HM4 := Lib.hid ((hb4.block M (Array.getElem?_eq_some_iff.1 HM3.out).1).trans HM3.out)
    have HL4 := Lib.hid (SlT.below HL3.out hb4)
    have HB4 := Lib.hid (Raw.below HB3.out hb4)
    clear HX3 HM3 HL3 HB3
    have bel4 := bel3.trans (hb4.mono bel3.size)
    have HA4 := Lib.hid (RetB.raw hr4)
    have HE4 := Lib.hid (hE4)
    obtain ⟨ia4, ic4, rfl⟩ := own_slice hr4
    obtain ⟨ea4, ec4, rfl⟩ := Raw.slice hE4
    clear hb4 hr4 hE4
    obtain ⟨K, hK⟩ : ∃ O, O = w4.heap.size := ⟨_, rfl⟩
    obtain ⟨w5, hw5⟩ : ∃ W, W = w4.alloc (.cells #[.int .i64 0, .int .i64 10, .int .i64 4, .int .i64 0, .int .i64 o, .int .i64 9, .int .i64 0, .int .i64 0, .slice none 0 0] 28) := ⟨_, rfl⟩
    have hb5 : Below w4.heap.size w4 w5 := by rw [hw5]; exact (Below.refl _ _).alloc (Nat.le_refl _) _
    have hxK : w5.heap[K]? = some (.cells #[.int .i64 0, .int .i64 10, .int .i64 4, .int .i64 0, .int .i64 o, .int .i64 9, .int .i64 0, .int .i64 0, .slice none 0 0] 28 (0, 0)) := by rw [hw5, hK]; exact heap_alloc_new w4 _
    have HW5 := Lib.hid hw5
    have HRK := Lib.hid hK
    clear hw5 hK
    go_upto_region 10 with (fail)
    rw [← HW5.out, ← HRK.out]
    clear HW5 HRK
    have HX5 := Lib.hid ((hb5.block X (Array.getElem?_eq_some_iff.1 HX4.out).1).trans HX4.out)
    have HM5 := Lib.hid ((hb5.block M (Array.getElem?_eq_some_iff.1 HM4.out).1).trans HM4.out)
    have HL5 := Lib.hid (SlT.below HL4.out hb5)
    have HB5 := Lib.hid (Raw.below HB4.out hb5)
    have HA5 := Lib.hid (Raw.below HA4.out hb5)
    have HE5 := Lib.hid (SlE.below HE4.out hb5)
    clear HX4 HM4 HL4 HB4 HA4 HE4
    have bel5 := bel4.trans (hb5.mono bel4.size)
    have HK5 := Lib.hid (hxK)
    clear hb5 hxK
    have cK_0 := box_at HK5.out (j := 0) rfl
    have cK_1 := box_at HK5.out (j := 1) rfl
    have cK_2 := box_at HK5.out (j := 2) rfl
    have cK_3 := box_at HK5.out (j := 3) rfl
    have cK_4 := box_at HK5.out (j := 4) rfl
    have cK_5 := box_at HK5.out (j := 5) rfl
    have cK_6 := box_at HK5.out (j := 6) rfl
    have cK_7 := box_at HK5.out (j := 7) rfl
    have cK_8 := box_at HK5.out (j := 8) rfl
    go_wp2_with fail
    refine (step_any _ (.slice none 0 0) (Ti.encS l) ⟨0, 10, 4, 0, o, 9, 0, 0⟩ _ HB5.out (by have := encS_len (l := l); omega) ⟨_, _, _, rfl⟩).mono ?_
    rw [S1.out]
    rintro e w6 ⟨hb6, iv6, ev6, rfl, hr6, hE6⟩
    clear cK_0 cK_1 cK_2 cK_3 cK_4 cK_5 cK_6 cK_7 cK_8
    have HX6 := Lib.hid ((hb6.block X (Array.getElem?_eq_some_iff.1 HX5.out).1).trans HX5.out)
    have HM6 := Lib.hid ((hb6.block M (Array.getElem?_eq_some_iff.1 HM5.out).1).trans HM5.out)
    have HL6 := Lib.hid (SlT.below HL5.out hb6)
    have HB6 := Lib.hid (Raw.below HB5.out hb6)
    have HA6 := Lib.hid (Raw.below HA5.out hb6)
    have HE6 := Lib.hid (SlE.below HE5.out hb6)
    have HK6 := Lib.hid ((hb6.block K (Array.getElem?_eq_some_iff.1 HK5.out).1).trans HK5.out)
    clear HX5 HM5 HL5 HB5 HA5 HE5 HK5
    have bel6 := bel5.trans (hb6.mono bel5.size)
    have HA1_6 := Lib.hid (RetB.raw hr6)
    have HE1_6 := Lib.hid (hE6)
    obtain ⟨ia6, ic6, rfl⟩ := own_slice hr6
    obtain ⟨ea6, ec6, rfl⟩ := Raw.slice hE6
    clear hb6 hr6 hE6
    have cK_0 := box_at HK6.out (j := 0) rfl
    have cK_1 := box_at HK6.out (j := 1) rfl
    have cK_2 := box_at HK6.out (j := 2) rfl
    have cK_3 := box_at HK6.out (j := 3) rfl
    have cK_4 := box_at HK6.out (j := 4) rfl
    have cK_5 := box_at HK6.out (j := 5) rfl
    have cK_6 := box_at HK6.out (j := 6) rfl
    have cK_7 := box_at HK6.out (j := 7) rfl
    have cK_8 := box_at HK6.out (j := 8) rfl
    go_wp2_with fail
    refine (step_any _ (.slice none 0 0) (Ti.encS l') ⟨0, 10, 4, 0, o, 9, 0, 0⟩ _ HA6.out (by have := encS_len (l := l'); omega) ⟨_, _, _, rfl⟩).mono ?_
    rw [S2.out]
    rintro e w7 ⟨hb7, iv7, ev7, rfl, hr7, hE7⟩
    clear cK_0 cK_1 cK_2 cK_3 cK_4 cK_5 cK_6 cK_7 cK_8
    have HX7 := Lib.hid ((hb7.block X (Array.getElem?_eq_some_iff.1 HX6.out).1).trans HX6.out)
    have HM7 := Lib.hid ((hb7.block M (Array.getElem?_eq_some_iff.1 HM6.out).1).trans HM6.out)
    have HL7 := Lib.hid (SlT.below HL6.out hb7)
    have HB7 := Lib.hid (Raw.below HB6.out hb7)
    have HA7 := Lib.hid (Raw.below HA6.out hb7)
    have HE7 := Lib.hid (SlE.below HE6.out hb7)
    have HK7 := Lib.hid ((hb7.block K (Array.getElem?_eq_some_iff.1 HK6.out).1).trans HK6.out)
    have HA1_7 := Lib.hid (Raw.below HA1_6.out hb7)
    have HE1_7 := Lib.hid (SlE.below HE1_6.out hb7)
    clear HX6 HM6 HL6 HB6 HA6 HE6 HK6 HA1_6 HE1_6
    have bel7 := bel6.trans (hb7.mono bel6.size)
    have HA2_7 := Lib.hid (RetB.raw hr7)
    have HE2_7 := Lib.hid (hE7)
    obtain ⟨ia7, ic7, rfl⟩ := own_slice hr7
    obtain ⟨ea7, ec7, rfl⟩ := Raw.slice hE7
    clear hb7 hr7 hE7
    go_wp2_with fail
    refine (sameeff_any _ _ fs _ (by have := HFL.out; omega) HE1_7.out HE2_7.out).mono ?_
    rintro e w8 ⟨rfl, hb8⟩
    have HX8 := Lib.hid ((hb8.block X (Array.getElem?_eq_some_iff.1 HX7.out).1).trans HX7.out)
    have HM8 := Lib.hid ((hb8.block M (Array.getElem?_eq_some_iff.1 HM7.out).1).trans HM7.out)
    have HL8 := Lib.hid (SlT.below HL7.out hb8)
    have HB8 := Lib.hid (Raw.below HB7.out hb8)
    have HA8 := Lib.hid (Raw.below HA7.out hb8)
    have HE8 := Lib.hid (SlE.below HE7.out hb8)
    have HK8 := Lib.hid ((hb8.block K (Array.getElem?_eq_some_iff.1 HK7.out).1).trans HK7.out)
    have HA1_8 := Lib.hid (Raw.below HA1_7.out hb8)
    have HE1_8 := Lib.hid (SlE.below HE1_7.out hb8)
    have HA2_8 := Lib.hid (Raw.below HA2_7.out hb8)
    have HE2_8 := Lib.hid (SlE.below HE2_7.out hb8)
    clear HX7 HM7 HL7 HB7 HA7 HE7 HK7 HA1_7 HE1_7 HA2_7 HE2_7
    have bel8 := bel7.trans (hb8.mono bel7.size)
    go_wp2
    go_ret
    exact ⟨rfl, bel8⟩
end Go.Proofs.Ytdelemmoiaiooaa
