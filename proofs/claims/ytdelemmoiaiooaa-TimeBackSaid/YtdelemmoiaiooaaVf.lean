/- time: TimeBack -/
import Derived.Test.YtdelemmoiaiooaaVd
namespace Go.Proofs.Ytdelemmoiaiooaa
open Go.RowKit Go.Bs Go.Cl Go.Rw Go.Ti Go.Wi
set_option maxRecDepth 100000 in
set_option maxHeartbeats 8000000 in
theorem back_any (lv : Value) (l : List Int) (t n : Int) (w : World) (hL : SlT w lv l) :
    Calls Try.prog 8 #[.agg #[lv], .int .i64 t, .int .i64 n] w (RetOK w) := by
  obtain ⟨la, lc, rfl⟩ := Raw.slice hL
  obtain ⟨w1, hw1⟩ : ∃ W, W = w.alloc (.cells #[.slice la l.length lc] 24) := ⟨_, rfl⟩
  have bel1 : Below w.heap.size w w1 := by rw [hw1]; exact (Below.refl w.heap.size w).alloc (by simp) _
  have hx0 : w1.heap[w.heap.size]? = some (.cells #[.slice la l.length lc] 24 (0, 0)) := by rw [hw1]; exact a1_0 _ _ _
  obtain ⟨X, hX⟩ : ∃ M, M = w.heap.size := ⟨_, rfl⟩
  rw [← hX] at hx0
  have HX1 := Lib.hid (hx0)
  have HRX := Lib.hid hX
  have HW := Lib.hid hw1
  clear hw1 hx0 hX
  have hL1 := hL.below bel1
  have HL1 := Lib.hid (hL1)
  clear hL hL1
  go_enter Try.func8, Try.ntmps8
  go_upto_region 1 with (fail)
  rw [← HW.out, ← HRX.out]
  clear HW HRX
  go_wp2_with fail
  refine (awake_any _).mono ?_
  rintro e w2 ⟨rfl, hb2⟩
  have HX2 := Lib.hid ((hb2.block X (Array.getElem?_eq_some_iff.1 HX1.out).1).trans HX1.out)
  have HL2 := Lib.hid (SlT.below HL1.out hb2)
  clear HX1 HL1
  have bel2 := bel1.trans (hb2.mono bel1.size)
  by_cases hcl : l.length ≤ 60
  rotate_left
  · have cX_0 := box_at HX2.out (j := 0) rfl
    have hcl' : (60 : Int) < (l.length : Int) := by omega
    go_wp2
    go_ret
    exact ⟨rfl, bel2⟩
  have Hcl := Lib.hid hcl
  have hpl : (l.length : Int) ≤ 60 := by omega
  clear hcl
  have cX_0 := box_at HX2.out (j := 0) rfl
  go_wp2_with fail
  refine (rvalid_any _ l _ (by have := Hcl.out; omega) HL2.out).mono ?_
  rintro e w3 ⟨rfl, hb3⟩
  clear cX_0
  have HX3 := Lib.hid ((hb3.block X (Array.getElem?_eq_some_iff.1 HX2.out).1).trans HX2.out)
  have HL3 := Lib.hid (SlT.below HL2.out hb3)
  clear HX2 HL2
  have bel3 := bel2.trans (hb3.mono bel2.size)
  obtain ⟨V, hV⟩ : ∃ V, validT l = V := ⟨_, rfl⟩
  rw [hV]
  have HV := Lib.hid hV
  clear hV
  cases V
  · have cX_0 := box_at HX3.out (j := 0) rfl
    go_wp2
    go_ret
    exact ⟨rfl, bel3⟩
  by_cases h16 : 16 ≤ t
  rotate_left
  · have cX_0 := box_at HX3.out (j := 0) rfl
    have h16' : t < 16 := by omega
    go_wp2
    go_ret
    exact ⟨rfl, bel3⟩
  by_cases h32 : t < 32
  rotate_left
  · have cX_0 := box_at HX3.out (j := 0) rfl
    have h32' : 32 ≤ t := by omega
    go_wp2
    go_ret
    exact ⟨rfl, bel3⟩
  have cX_0 := box_at HX3.out (j := 0) rfl
  go_wp2_with fail
  refine (rsleeps_any _ l t _ (by have := Hcl.out; omega) HL3.out).mono ?_
  rintro e w4 ⟨rfl, hb4⟩
  clear cX_0
  have HX4 := Lib.hid ((hb4.block X (Array.getElem?_eq_some_iff.1 HX3.out).1).trans HX3.out)
  have HL4 := Lib.hid (SlT.below HL3.out hb4)
  clear HX3 HL3
  have bel4 := bel3.trans (hb4.mono bel3.size)
  by_cases hm : t ∈ l
  · rw [show decide (t ∈ l) = true from decide_eq_true hm]
    clear hm
    have cX_0 := box_at HX4.out (j := 0) rfl
    go_wp2
    go_ret
    exact ⟨rfl, bel4⟩
  rw [show decide (t ∈ l) = false from decide_eq_false hm]
  have Hm := Lib.hid hm
  clear hm
  by_cases hn1 : 1 ≤ n
  rotate_left
  · have cX_0 := box_at HX4.out (j := 0) rfl
    have hn1' : n < 1 := by omega
    go_wp2
    go_ret
    exact ⟨rfl, bel4⟩
  by_cases hn2 : n ≤ 1000000
  rotate_left
  · have cX_0 := box_at HX4.out (j := 0) rfl
    have hn2' : 1000000 < n := by omega
    go_wp2
    go_ret
    exact ⟨rfl, bel4⟩
  have HU : Hid (usr t = true) := Lib.hid (by simp [usr]; omega)
  have hv' := valid_ins HV.out HU.out Hm.out
  have ht' : t ∈ insT l t := ins_mem.2 (.inl rfl)
  have S1 := Lib.hid (stp_of (m := ⟨t, 10, 1, 0, 19, n, 0, 0⟩) HV.out (take_sleep HU.out Hm.out hn1 hn2))
  have S2 := stp_of (m := ⟨3, 10, 16, 0, t, 0, 0, 0⟩) hv' (take_free HU.out)
  have S3 := stp_of (m := ⟨0, 10, 4, 0, t, n, 0, 0⟩) hv' (take_alarm HU.out)
  rw [if_pos ht', back_list HV.out Hm.out] at S2 S3
  have S2 := Lib.hid S2
  have S3 := Lib.hid S3
  clear hv' ht'
  have cX_0 := box_at HX4.out (j := 0) rfl
  go_wp2_with fail
  refine (rencode_any _ l _ (by have := Hcl.out; omega) HL4.out).mono ?_
  rintro e w5 ⟨v5, rfl, hr5, hb5⟩
  clear cX_0
  have HX5 := Lib.hid ((hb5.block X (Array.getElem?_eq_some_iff.1 HX4.out).1).trans HX4.out)
  have HL5 := Lib.hid (SlT.below HL4.out hb5)
  clear HX4 HL4
  have bel5 := bel4.trans (hb5.mono bel4.size)
  have HB5 := Lib.hid (RetB.raw hr5)
  obtain ⟨a5, c5, rfl⟩ := own_slice hr5
  clear hr5 hb5
  go_wp2_with fail
  refine (step_any _ (.slice none 0 0) (Ti.encS l) ⟨t, 10, 1, 0, 19, n, 0, 0⟩ _ HB5.out (by have := encS_len (l := l); omega) ⟨_, _, _, rfl⟩).mono ?_
  rw [S1.out]
  rintro e w6 ⟨hb6, iv6, ev6, rfl, hr6, hE6⟩
  have HX6 := Lib.hid ((hb6.block X (Array.getElem?_eq_some_iff.1 HX5.out).1).trans HX5.out)
  have HL6 := Lib.hid (SlT.below HL5.out hb6)
  have HB6 := Lib.hid (Raw.below HB5.out hb6)
  clear HX5 HL5 HB5
  have bel6 := bel5.trans (hb6.mono bel5.size)
  have HN6 := Lib.hid (RetB.raw hr6)
  have HE6 := Lib.hid (hE6)
  obtain ⟨ia6, ic6, rfl⟩ := own_slice hr6
  obtain ⟨ea6, ec6, rfl⟩ := Raw.slice hE6
  clear hb6 hr6 hE6
  go_wp2_with fail
  refine (step_any _ (.slice none 0 0) (Ti.encS (insT l t)) ⟨3, 10, 16, 0, t, 0, 0, 0⟩ _ HN6.out (by have := encS_len (l := insT l t); omega) ⟨_, _, _, rfl⟩).mono ?_
  rw [S2.out]
  rintro e w7 ⟨hb7, iv7, ev7, rfl, hr7, hE7⟩
  have HX7 := Lib.hid ((hb7.block X (Array.getElem?_eq_some_iff.1 HX6.out).1).trans HX6.out)
  have HL7 := Lib.hid (SlT.below HL6.out hb7)
  have HB7 := Lib.hid (Raw.below HB6.out hb7)
  have HN7 := Lib.hid (Raw.below HN6.out hb7)
  have HE7 := Lib.hid (SlE.below HE6.out hb7)
  clear HX6 HL6 HB6 HN6 HE6
  have bel7 := bel6.trans (hb7.mono bel6.size)
  have HA7 := Lib.hid (RetB.raw hr7)
  have HF7 := Lib.hid (hE7)
  obtain ⟨ia7, ic7, rfl⟩ := own_slice hr7
  obtain ⟨ea7, ec7, rfl⟩ := Raw.slice hE7
  clear hb7 hr7 hE7
  go_wp2_with fail
  refine (step_any _ (.slice none 0 0) (Ti.encS (insT l t)) ⟨0, 10, 4, 0, t, n, 0, 0⟩ _ HN7.out (by have := encS_len (l := insT l t); omega) ⟨_, _, _, rfl⟩).mono ?_
  rw [S3.out]
  rintro e w8 ⟨hb8, iv8, ev8, rfl, hr8, hE8⟩
  have HX8 := Lib.hid ((hb8.block X (Array.getElem?_eq_some_iff.1 HX7.out).1).trans HX7.out)
  have HL8 := Lib.hid (SlT.below HL7.out hb8)
  have HB8 := Lib.hid (Raw.below HB7.out hb8)
  have HN8 := Lib.hid (Raw.below HN7.out hb8)
  have HE8 := Lib.hid (SlE.below HE7.out hb8)
  have HA8 := Lib.hid (Raw.below HA7.out hb8)
  have HF8 := Lib.hid (SlE.below HF7.out hb8)
  clear HX7 HL7 HB7 HN7 HE7 HA7 HF7
  have bel8 := bel7.trans (hb8.mono bel7.size)
  have HC8 := Lib.hid (RetB.raw hr8)
  have HG8 := Lib.hid (hE8)
  obtain ⟨ia8, ic8, rfl⟩ := own_slice hr8
  obtain ⟨ea8, ec8, rfl⟩ := Raw.slice hE8
  clear hb8 hr8 hE8
  go_wp2_with fail
  refine (same_any _ _ _ _ _ HA8.out HB8.out).mono ?_
  rintro e w' ⟨rfl, rfl⟩
  simp only [decide_true]
  go_wp2_with fail
  refine (same_any _ _ _ _ _ HC8.out HB8.out).mono ?_
  rintro e w' ⟨rfl, rfl⟩
  simp only [decide_true]
  obtain ⟨q1, o1, rfl, _, hc1⟩ := SlE.cells HE8.out (k := 0) rfl
  obtain ⟨q2, o2, rfl, _, hc2⟩ := SlE.cells HF8.out (k := 0) rfl
  obtain ⟨q3, o3, rfl, _, hc3⟩ := SlE.cells HG8.out (k := 0) rfl
  have a_1 := hc1 1 _ rfl
  have b_1 := hc2 1 _ rfl
  have a_2 := hc1 2 _ rfl
  have b_2 := hc2 2 _ rfl
  have a_3 := hc1 3 _ rfl
  have b_3 := hc2 3 _ rfl
  have a_4 := hc1 4 _ rfl
  have b_4 := hc2 4 _ rfl
  have d_0 := hc3 0 _ rfl
  simp only [Nat.zero_mul, Nat.zero_add, Nat.add_zero, timer, reply, send] at d_0 a_1 b_1 a_2 b_2 a_3 b_3 a_4 b_4
  clear hc1 hc2 hc3 HX8 HL8 HB8 HN8 HE8 HA8 HF8 HC8 HG8
  have ent : (t == t) = true := by simp
  have enn : (n == n) = true := by simp
  go_wp2
  go_ret
  exact ⟨rfl, bel8⟩
end Go.Proofs.Ytdelemmoiaiooaa
