/- names: NamesApart, NamesBack -/
import Derived.Test.YtfgbkfifiioeiaaNk
namespace Go.Proofs.Ytfgbkfifiioeiaa
open Go.RowKit Go.Bs Go.Cl Go.Rw Go.Nm Go.Wi
set_option maxRecDepth 100000 in
set_option maxHeartbeats 4000000 in
theorem apart_any (lv : Value) (X : List Nm) (fr op : Int) (s nm : List UInt8) (w : World) (hsl : s.length ≤ maxLen) (hnl : nm.length ≤ maxLen) (hL : SlN w lv X) :
    Calls Try.prog 6 #[lv, .agg #[.int .i64 fr, .int .i64 op, .string (strOf s)], .string (strOf nm)] w fun e w' => e = .returned (.bool true) ∧ Below w.heap.size w w' := by
  obtain ⟨la, lc, rfl⟩ := Raw.slice hL
  obtain ⟨C, hC⟩ : ∃ C, C = w.heap.size := ⟨_, rfl⟩
  obtain ⟨w1, hw1⟩ : ∃ W, W = w.alloc (.cells #[.int .i64 fr, .int .i64 op, .string (strOf s)] 49) := ⟨_, rfl⟩
  have HW := Lib.hid hw1
  have hb1 : Below w.heap.size w w1 := by rw [hw1]; exact (Below.refl _ w).alloc (Nat.le_refl _) _
  have HC1 : Hid (w1.heap[C]? = some (.cells #[.int .i64 fr, .int .i64 op, .string (strOf s)] 49 (0, 0))) := Lib.hid (by rw [hw1, hC]; exact heap_alloc_new w _)
  have HL1 := Lib.hid (hL.below hb1)
  clear hw1 hL
  go_enter Try.func6, Try.ntmps6
  go_upto_region 1 with (fail)
  rw [← HW.out, ← hC]
  clear HW hC
  go_wp2_with fail
  refine (awake_any _).mono ?_
  rintro e w2 ⟨rfl, hb2⟩
  have bel2 := hb1.trans (hb2.mono hb1.size)
  have HC2 := Lib.hid ((hb2.block C (Array.getElem?_eq_some_iff.1 HC1.out).1).trans HC1.out)
  have HL2 := Lib.hid (HL1.out.below hb2)
  clear hb1 hb2 HC1 HL1
  cases hfew : few X
  · have HFW := Lib.hid hfew; clear hfew
    go_wp2_with fail
    refine (few_eq _ X false _ HL2.out HFW.out).mono ?_
    rintro e w' ⟨rfl, rfl⟩
    go_wp2
    go_ret
    exact ⟨rfl, bel2⟩
  obtain ⟨hl50, hn40⟩ := few_len hfew
  have HN := Lib.hid hn40; have HFW := Lib.hid hfew
  clear hn40 hfew
  cases hv : validN X
  · have HV := Lib.hid hv; clear hv
    go_wp2_with fail
    refine (few_eq _ X true _ HL2.out HFW.out).mono ?_
    rintro e w' ⟨rfl, rfl⟩
    go_wp2_with fail
    refine (rvalid_eq _ X false _ (by omega) (fun x hx => by have := HN.out x hx; omega) HL2.out HV.out).mono ?_
    rintro e w3 ⟨rfl, hb3⟩
    go_wp2
    go_ret
    exact ⟨rfl, bel2.trans (hb3.mono bel2.size)⟩
  have HV := Lib.hid hv; clear hv
  go_wp2_with fail
  refine (few_eq _ X true _ HL2.out HFW.out).mono ?_
  rintro e w' ⟨rfl, rfl⟩
  go_wp2_with fail
  refine (rvalid_eq _ X true _ (by omega) (fun x hx => by have := HN.out x hx; omega) HL2.out HV.out).mono ?_
  rintro e w3 ⟨rfl, hb3⟩
  have bel3 := bel2.trans (hb3.mono bel2.size)
  have HC3 := Lib.hid ((hb3.block C (Array.getElem?_eq_some_iff.1 HC2.out).1).trans HC2.out)
  have HL3 := Lib.hid (HL2.out.below hb3)
  clear hb3 HC2 HL2
  have c_0 : w3.cell? ⟨C, 0, none⟩ = some (.int .i64 fr) := box_at HC3.out rfl
  have c_1 : w3.cell? ⟨C, 1, none⟩ = some (.int .i64 op) := box_at HC3.out rfl
  have c_2 : w3.cell? ⟨C, 2, none⟩ = some (.string (strOf s)) := box_at HC3.out rfl
  have zs : ((strOf s).size : Int) = s.length := by rw [strOf_size]
  have zn : ((strOf nm).size : Int) = nm.length := by rw [strOf_size]
  have les : (strOf s).toList = s := strOf_list s
  have len : (strOf nm).toList = nm := strOf_list nm
  have ZS := Lib.hid zs; have ZN := Lib.hid zn; have LS := Lib.hid les; have LN := Lib.hid len
  clear zs zn les len
  by_cases hc : (s.length ≤ 100 ∧ nm.length ≤ 100) ∧ s ≠ nm ∧ (1 ≤ fr ∧ fr ≤ 10 ∧ fr ≠ 2) ∧ (0 ≤ op ∧ op ≤ 2)
  rotate_left
  · have HNC := Lib.hid hc
    have q1 : ((strOf s).toList == (strOf nm).toList) = decide (s = nm) := by rw [LS.out, LN.out]; rw [Bool.eq_iff_iff]; simp
    clear hc
    go_wp2_with fail
    all_goals first
      | (go_ret
         exact ⟨rfl, bel3⟩)
      | (exfalso
         have h1 := HNC.out
         have h2 := ZS.out
         have h3 := ZN.out
         simp only [decide_eq_false_iff_not, decide_eq_true_eq, beq_eq_false_iff_ne, ne_eq] at *
         apply h1
         refine ⟨⟨?_, ?_⟩, ?_, ⟨?_, ?_, ?_⟩, ?_, ?_⟩ <;> first | omega | assumption)
  obtain ⟨⟨hs1, hn1⟩, hsn, hfr, hop⟩ := hc
  have q1 : ((strOf s).toList == (strOf nm).toList) = false := by rw [LS.out, LN.out]; simp [hsn]
  have g1 : ¬ (100 : Int) < ((strOf s).size : Int) := by have := ZS.out; omega
  have g2 : ¬ (100 : Int) < ((strOf nm).size : Int) := by have := ZN.out; omega
  obtain ⟨f1, f2, f3⟩ := hfr
  obtain ⟨o1, o2⟩ := hop
  have g3 : ¬ fr < 1 := by omega
  have g4 : ¬ 10 < fr := by omega
  have g5 : (fr == 2) = false := by simp [f3]
  have g6 : ¬ op < 0 := by omega
  have g7 : ¬ 2 < op := by omega
  have Hne := Lib.hid hsn
  have HF3 := Lib.hid f3
  clear hsn f3
  go_wp2_with fail
  refine (rencode_any _ X _ (by omega) HL3.out (valid_fits HV.out)).mono ?_
  rintro e w4 ⟨v4, rfl, hr4, hb⟩
  have bel4 := bel3.trans (hb.mono bel3.size)
  have HB4 := Lib.hid (BRow.bytes (F := []) hr4 (fun f hf => by cases hf))
  have HC4 := Lib.hid ((hb.block C (Array.getElem?_eq_some_iff.1 HC3.out).1).trans HC3.out)
  clear hr4 hb HC3 c_0 c_1 c_2
  have hlk := look_do X nm 9
  obtain ⟨K, hK⟩ : ∃ K, doN X 0 nm 9 = K := ⟨_, rfl⟩
  rw [hK] at hlk
  have HK := Lib.hid hK; have HLK := Lib.hid hlk
  clear hK hlk
  go_wp2_with fail
  refine (ask_any _ X 9 0 nm _ HV.out (by decide) (by decide) (by omega) HB4.out).mono ?_
  rw [HK.out]
  rintro e w5 ⟨v5, rfl, hr5, hb⟩
  have bel5 := bel4.trans (hb.mono bel4.size)
  have HB5 := Lib.hid (Raw.below HB4.out hb)
  have HC5 := Lib.hid ((hb.block C (Array.getElem?_eq_some_iff.1 HC4.out).1).trans HC4.out)
  clear hr5 hb HC4 HB4
  have c_0 : w5.cell? ⟨C, 0, none⟩ = some (.int .i64 fr) := box_at HC5.out rfl
  have c_1 : w5.cell? ⟨C, 1, none⟩ = some (.int .i64 op) := box_at HC5.out rfl
  have c_2 : w5.cell? ⟨C, 2, none⟩ = some (.string (strOf s)) := box_at HC5.out rfl
  have hvd := valid_do (op := op) (s := s) HV.out ⟨f1, f2⟩
  have hlk2 := look_do (doN X op s fr).1 nm 9
  rw [fnd_do (fun e => Hne.out e.symm)] at hlk2
  rw [← HLK.out] at hlk2
  obtain ⟨Y, hY⟩ : ∃ Y, doN X op s fr = Y := ⟨_, rfl⟩
  rw [hY] at hvd hlk2
  obtain ⟨Z, hZ⟩ : ∃ Z, doN Y.1 0 nm 9 = Z := ⟨_, rfl⟩
  rw [hZ] at hlk2
  have HY := Lib.hid hY; have HVD := Lib.hid hvd; have HL2 := Lib.hid hlk2; have HZ := Lib.hid hZ
  clear hY hvd hlk2 hZ
  go_wp2_with fail
  refine (ask_any _ X fr op s _ HV.out ⟨f1, f2, HF3.out⟩ ⟨o1, o2⟩ (by omega) HB5.out).mono ?_
  rw [HY.out]
  rintro e w6 ⟨v6, rfl, hr6, hb⟩
  have bel6 := bel5.trans (hb.mono bel5.size)
  have HB6 := Lib.hid (BRow.bytes (F := []) hr6 (fun f hf => by cases hf))
  clear hr6 hb HB5 HC5 c_0 c_1 c_2
  go_wp2_with fail
  refine (ask_any _ Y.1 9 0 nm _ HVD.out (by decide) (by decide) (by omega) HB6.out).mono ?_
  rw [HZ.out]
  rintro e w7 ⟨v7, rfl, hr7, hb⟩
  have bel7 := bel6.trans (hb.mono bel6.size)
  rw [HL2.out]
  clear hr7 hb HB6
  go_wp2
  go_ret
  exact ⟨by simp, bel7⟩
set_option maxRecDepth 100000 in
set_option maxHeartbeats 4000000 in
theorem back_any (lv : Value) (X : List Nm) (fr op : Int) (s : List UInt8) (w : World) (hsl : s.length ≤ maxLen) (hL : SlN w lv X) :
    Calls Try.prog 7 #[lv, .agg #[.int .i64 fr, .int .i64 op, .string (strOf s)]] w fun e w' => e = .returned (.bool true) ∧ Below w.heap.size w w' := by
  obtain ⟨la, lc, rfl⟩ := Raw.slice hL
  obtain ⟨C, hC⟩ : ∃ C, C = w.heap.size := ⟨_, rfl⟩
  obtain ⟨w1, hw1⟩ : ∃ W, W = w.alloc (.cells #[.int .i64 fr, .int .i64 op, .string (strOf s)] 49) := ⟨_, rfl⟩
  have HW := Lib.hid hw1
  have hb1 : Below w.heap.size w w1 := by rw [hw1]; exact (Below.refl _ w).alloc (Nat.le_refl _) _
  have HC1 : Hid (w1.heap[C]? = some (.cells #[.int .i64 fr, .int .i64 op, .string (strOf s)] 49 (0, 0))) := Lib.hid (by rw [hw1, hC]; exact heap_alloc_new w _)
  have HL1 := Lib.hid (hL.below hb1)
  clear hw1 hL
  go_enter Try.func7, Try.ntmps7
  go_upto_region 1 with (fail)
  rw [← HW.out, ← hC]
  clear HW hC
  go_wp2_with fail
  refine (awake_any _).mono ?_
  rintro e w2 ⟨rfl, hb2⟩
  have bel2 := hb1.trans (hb2.mono hb1.size)
  have HC2 := Lib.hid ((hb2.block C (Array.getElem?_eq_some_iff.1 HC1.out).1).trans HC1.out)
  have HL2 := Lib.hid (HL1.out.below hb2)
  clear hb1 hb2 HC1 HL1
  cases hfew : few X
  · have HFW := Lib.hid hfew; clear hfew
    go_wp2_with fail
    refine (few_eq _ X false _ HL2.out HFW.out).mono ?_
    rintro e w' ⟨rfl, rfl⟩
    go_wp2
    go_ret
    exact ⟨rfl, bel2⟩
  obtain ⟨hl50, hn40⟩ := few_len hfew
  have HN := Lib.hid hn40; have HFW := Lib.hid hfew
  clear hn40 hfew
  cases hv : validN X
  · have HV := Lib.hid hv; clear hv
    go_wp2_with fail
    refine (few_eq _ X true _ HL2.out HFW.out).mono ?_
    rintro e w' ⟨rfl, rfl⟩
    go_wp2_with fail
    refine (rvalid_eq _ X false _ (by omega) (fun x hx => by have := HN.out x hx; omega) HL2.out HV.out).mono ?_
    rintro e w3 ⟨rfl, hb3⟩
    go_wp2
    go_ret
    exact ⟨rfl, bel2.trans (hb3.mono bel2.size)⟩
  have HV := Lib.hid hv; clear hv
  go_wp2_with fail
  refine (few_eq _ X true _ HL2.out HFW.out).mono ?_
  rintro e w' ⟨rfl, rfl⟩
  go_wp2_with fail
  refine (rvalid_eq _ X true _ (by omega) (fun x hx => by have := HN.out x hx; omega) HL2.out HV.out).mono ?_
  rintro e w3 ⟨rfl, hb3⟩
  have bel3 := bel2.trans (hb3.mono bel2.size)
  have HC3 := Lib.hid ((hb3.block C (Array.getElem?_eq_some_iff.1 HC2.out).1).trans HC2.out)
  have HL3 := Lib.hid (HL2.out.below hb3)
  clear hb3 HC2 HL2
  have c_0 : w3.cell? ⟨C, 0, none⟩ = some (.int .i64 fr) := box_at HC3.out rfl
  have c_1 : w3.cell? ⟨C, 1, none⟩ = some (.int .i64 op) := box_at HC3.out rfl
  have c_2 : w3.cell? ⟨C, 2, none⟩ = some (.string (strOf s)) := box_at HC3.out rfl
  have zs : ((strOf s).size : Int) = s.length := by rw [strOf_size]
  have ZS := Lib.hid zs
  clear zs
  by_cases hc : s.length ≤ 100 ∧ (1 ≤ fr ∧ fr ≤ 10 ∧ fr ≠ 2)
  rotate_left
  · have HNC := Lib.hid hc
    clear hc
    go_wp2_with fail
    all_goals first
      | (go_ret
         exact ⟨rfl, bel3⟩)
      | (exfalso
         have h1 := HNC.out
         have h2 := ZS.out
         simp only [decide_eq_false_iff_not, decide_eq_true_eq, beq_eq_false_iff_ne, ne_eq] at *
         apply h1
         refine ⟨?_, ?_, ?_, ?_⟩ <;> first | omega | assumption)
  obtain ⟨hs1, hfr⟩ := hc
  have g1 : ¬ (100 : Int) < ((strOf s).size : Int) := by have := ZS.out; omega
  obtain ⟨f1, f2, f3⟩ := hfr
  have g3 : ¬ fr < 1 := by omega
  have g4 : ¬ 10 < fr := by omega
  have g5 : (fr == 2) = false := by simp [f3]
  have HF3 := Lib.hid f3
  clear f3
  go_wp2_with fail
  refine (rencode_any _ X _ (by omega) HL3.out (valid_fits HV.out)).mono ?_
  rintro e w4 ⟨v4, rfl, hr4, hb⟩
  have bel4 := bel3.trans (hb.mono bel3.size)
  have HB4 := Lib.hid (BRow.bytes (F := []) hr4 (fun f hf => by cases hf))
  have HC4 := Lib.hid ((hb.block C (Array.getElem?_eq_some_iff.1 HC3.out).1).trans HC3.out)
  clear hr4 hb HC3 c_0 c_1 c_2
  have c_0 : w4.cell? ⟨C, 0, none⟩ = some (.int .i64 fr) := box_at HC4.out rfl
  have c_1 : w4.cell? ⟨C, 1, none⟩ = some (.int .i64 op) := box_at HC4.out rfl
  have c_2 : w4.cell? ⟨C, 2, none⟩ = some (.string (strOf s)) := box_at HC4.out rfl
  obtain ⟨K, hK⟩ : ∃ K, doN X 0 s fr = K := ⟨_, rfl⟩
  have hbc := fun h8 => back_cases HV.out (s := s) (t := fr) ⟨f1, f2⟩ h8
  rw [hK] at hbc
  have HK := Lib.hid hK; have HBC := Lib.hid hbc
  clear hK hbc
  go_wp2_with fail
  refine (ask_any _ X fr 0 s _ HV.out ⟨f1, f2, HF3.out⟩ (by decide) (by omega) HB4.out).mono ?_
  rw [HK.out]
  rintro e w5 ⟨v5, rfl, hr5, hb⟩
  have bel5 := bel4.trans (hb.mono bel4.size)
  have HB5 := Lib.hid (Raw.below HB4.out hb)
  have HC5 := Lib.hid ((hb.block C (Array.getElem?_eq_some_iff.1 HC4.out).1).trans HC4.out)
  clear hr5 hb HC4 HB4 c_0 c_1 c_2
  have c_0 : w5.cell? ⟨C, 0, none⟩ = some (.int .i64 fr) := box_at HC5.out rfl
  have c_1 : w5.cell? ⟨C, 1, none⟩ = some (.int .i64 op) := box_at HC5.out rfl
  have c_2 : w5.cell? ⟨C, 2, none⟩ = some (.string (strOf s)) := box_at HC5.out rfl
  obtain ⟨K1, K2, K3⟩ := K
  simp only at HBC ⊢
  by_cases h8 : K3 = 8
  rotate_left
  · have e8 : (K3 != 8) = true := by simp [h8]
    clear h8
    go_wp2
    go_ret
    exact ⟨rfl, bel5⟩
  subst h8
  rcases HBC.out rfl with hfull | ⟨Y, hreg, hvy, hrel, hne⟩
  · have HFU := Lib.hid hfull
    clear hfull
    go_wp2_with fail
    refine (ask_any _ X fr 1 s _ HV.out ⟨f1, f2, HF3.out⟩ (by decide) (by omega) HB5.out).mono ?_
    rw [HFU.out]
    rintro e w6 ⟨v6, rfl, hr6, hb⟩
    have bel6 := bel5.trans (hb.mono bel5.size)
    have k6 := run_str (BRow.bytes (F := []) hr6 (fun f hf => by cases hf)) 23 5 9 Try.underlying23 Try.underlying5 Try.underlying9
    have k4 := run_str (Raw.below HB5.out hb) 23 5 9 Try.underlying23 Try.underlying5 Try.underlying9
    obtain ⟨a6, c6, hv6⟩ := own_slice hr6
    clear hr6 hb hv6
    simp only at k6 ⊢
    go_wp2
    go_ret
    exact ⟨by simp, bel6⟩
  · have HRG := Lib.hid hreg; have HRL := Lib.hid hrel; have HVY := Lib.hid hvy; have HNE := Lib.hid hne
    clear hreg hrel hvy hne
    go_wp2_with fail
    refine (ask_any _ X fr 1 s _ HV.out ⟨f1, f2, HF3.out⟩ (by decide) (by omega) HB5.out).mono ?_
    rw [HRG.out]
    rintro e w6 ⟨v6, rfl, hr6, hb⟩
    have bel6 := bel5.trans (hb.mono bel5.size)
    have HB6 := Lib.hid (BRow.bytes (F := []) hr6 (fun f hf => by cases hf))
    have HX6 := Lib.hid (Raw.below HB5.out hb)
    have HC6 := Lib.hid ((hb.block C (Array.getElem?_eq_some_iff.1 HC5.out).1).trans HC5.out)
    clear hr6 hb HC5 HB5 c_0 c_1 c_2
    have c_0 : w6.cell? ⟨C, 0, none⟩ = some (.int .i64 fr) := box_at HC6.out rfl
    have c_1 : w6.cell? ⟨C, 1, none⟩ = some (.int .i64 op) := box_at HC6.out rfl
    have c_2 : w6.cell? ⟨C, 2, none⟩ = some (.string (strOf s)) := box_at HC6.out rfl
    simp only
    go_wp2_with fail
    refine (ask_any _ Y fr 2 s _ HVY.out ⟨f1, f2, HF3.out⟩ (by decide) (by omega) HB6.out).mono ?_
    rw [HRL.out]
    rintro e w7 ⟨v7, rfl, hr7, hb⟩
    have bel7 := bel6.trans (hb.mono bel6.size)
    have k7 := run_str (BRow.bytes (F := []) hr7 (fun f hf => by cases hf)) 23 5 9 Try.underlying23 Try.underlying5 Try.underlying9
    have k6 := run_str (Raw.below HB6.out hb) 23 5 9 Try.underlying23 Try.underlying5 Try.underlying9
    have k4 := run_str (Raw.below HX6.out hb) 23 5 9 Try.underlying23 Try.underlying5 Try.underlying9
    have q2 : ((strOf (encV Y)).toList == (strOf (encV X)).toList) = false := by rw [strOf_list, strOf_list]; simp; exact HNE.out
    clear hr7 hb HC6 HB6 HX6 c_0 c_1 c_2
    simp only at k7 ⊢
    go_wp2
    go_ret
    exact ⟨by simp, bel7⟩
end Go.Proofs.Ytfgbkfifiioeiaa
