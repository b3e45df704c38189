/- names: NamesSpace -/
import Derived.Test.YtfgbkfifiioeiaaNl
namespace Go.Nm
open Go Go.RowKit Go.Bs Go.Cl Go.Rw Go.Wi
deriving instance DecidableEq for Nm
def nmOf (k : Nat) : List UInt8 := [110, UInt8.ofNat (97 + k / 6), UInt8.ofNat (97 + k % 6)]
def frOf (k : Nat) : Int := if k < 4 then 1 else 2 + (k / 4 : Nat)
def stN (k : Nat) : List Nm := (List.range k).map fun i => ⟨nmOf i, frOf i⟩
def leftN (k : Nat) : List Nm := delN (stN 36) (nmOf k)
theorem sp_reg {k : Nat} (h : k < 36) : doN (stN k) 1 (nmOf k) (frOf k) = (stN (k + 1), frOf k, 0) := by
  have : ∀ i : Fin 36, doN (stN i) 1 (nmOf i) (frOf i) = (stN (i + 1), frOf i, 0) := by decide +kernel
  exact this ⟨k, h⟩
theorem sp_valid {k : Nat} (h : k < 37) : validN (stN k) = true := by
  have : ∀ i : Fin 37, validN (stN i) = true := by decide +kernel
  exact this ⟨k, h⟩
theorem sp_full {k : Nat} (h : k < 36) : doN (stN 36) 1 [120] (frOf k) = (stN 36, 0, 13) := by
  have : ∀ i : Fin 36, doN (stN 36) 1 [120] (frOf i) = (stN 36, 0, 13) := by decide +kernel
  exact this ⟨k, h⟩
theorem sp_rel {k : Nat} (h : k < 36) : doN (stN 36) 2 (nmOf k) (frOf k) = (leftN k, frOf k, 0) := by
  have : ∀ i : Fin 36, doN (stN 36) 2 (nmOf i) (frOf i) = (leftN i, frOf i, 0) := by decide +kernel
  exact this ⟨k, h⟩
theorem sp_left {k : Nat} (h : k < 36) : validN (leftN k) = true ∧ (doN (leftN k) 1 [120] (frOf k)).2 = (frOf k, 0) := by
  have : ∀ i : Fin 36, validN (leftN i) = true ∧ (doN (leftN i) 1 [120] (frOf i)).2 = (frOf i, 0) := by decide +kernel
  exact this ⟨k, h⟩
theorem enc_small {n : Nat} (h : n < 128) : Utf8.encode (n : Int) = ⟨#[UInt8.ofNat n]⟩ := by
  have : ∀ i : Fin 128, Utf8.encode ((i : Nat) : Int) = ⟨#[UInt8.ofNat i]⟩ := by
    intro i
    unfold Utf8.encode
    have hv : Utf8.valid ((i : Nat) : Int) = true := by
      have := i.isLt
      unfold Utf8.valid
      simp
      omega
    have := i.isLt
    simp [hv]
  exact this ⟨n, h⟩
end Go.Nm
namespace Go.Proofs.Ytfgbkfifiioeiaa
open Go.RowKit Go.Bs Go.Cl Go.Rw Go.Nm Go.Wi
theorem Try.und21 : (Try.prog.underlying 21).isSome = true := by kernel_rfl
theorem conv_i32 (n : Int) (w : World) (h0 : 0 ≤ n) (h1 : n < 1000) : (convert 3 21 (.int .i64 n)).run Try.prog w = .ok (.int .i32 n) w := by
  have hw : IntKind.i32.wrap n = n := by
    have hm : n % 4294967296 = n := by omega
    unfold IntKind.wrap
    simp [IntKind.bits, IntKind.signed, hm]
    omega
  simp [convert, run_underlying Try.underlying3, run_underlying Try.underlying21, Conv.intToInt, hw]
theorem nm_parts (k : Nat) (h : k < 36) : ∃ s1 s2 : ByteArray, s1.size = 1 ∧ s2.size = 1 ∧ (⟨#[110]⟩ : ByteArray) ++ s1 ++ s2 = strOf (nmOf k) ∧
    (∀ w, (convert 3 21 (.int .i64 (97 + (k : Int) / 6))).run Try.prog w = .ok (.int .i32 (97 + (k : Int) / 6)) w) ∧ (∀ w, (convert 3 21 (.int .i64 (97 + (k : Int) % 6))).run Try.prog w = .ok (.int .i32 (97 + (k : Int) % 6)) w) ∧
    (∀ w, (convert 21 9 (.int .i32 (97 + (k : Int) / 6))).run Try.prog w = .ok (.string s1) w) ∧ (∀ w, (convert 21 9 (.int .i32 (97 + (k : Int) % 6))).run Try.prog w = .ok (.string s2) w) := by
  refine ⟨Utf8.encode (97 + (k : Int) / 6), Utf8.encode (97 + (k : Int) % 6), ?_, ?_, ?_, fun w => conv_i32 _ w (by omega) (by omega), fun w => conv_i32 _ w (by omega) (by omega), fun w => run_convert_int_string w 21 9 _ _ Try.und21 Try.underlying9, fun w => run_convert_int_string w 21 9 _ _ Try.und21 Try.underlying9⟩
  · rw [show (97 : Int) + (k : Int) / 6 = ((97 + k / 6 : Nat) : Int) by omega, enc_small (by omega)]; rfl
  · rw [show (97 : Int) + (k : Int) % 6 = ((97 + k % 6 : Nat) : Int) by omega, enc_small (by omega)]; rfl
  · rw [show (97 : Int) + (k : Int) / 6 = ((97 + k / 6 : Nat) : Int) by omega, show (97 : Int) + (k : Int) % 6 = ((97 + k % 6 : Nat) : Int) by omega, enc_small (by omega), enc_small (by omega)]
    rfl
theorem fr_low {k : Nat} (h : k < 4) : 1 + (k : Int) / 4 = frOf k := by unfold frOf; rw [if_pos h]; omega
theorem fr_high {k : Nat} (h : ¬ k < 4) : 1 + (k : Int) / 4 + 1 = frOf k := by unfold frOf; rw [if_neg h]; omega
theorem fr_ok {k : Nat} (h : k < 36) : 1 ≤ frOf k ∧ frOf k ≤ 10 ∧ frOf k ≠ 2 := by unfold frOf; split <;> omega
set_option maxRecDepth 100000 in
set_option maxHeartbeats 8000000 in
theorem space_any (n : Nat) (w : World) (hn : n ≤ 255) :
    Calls Try.prog 8 #[.int .u8 n] w fun e w' => e = .returned (.bool true) ∧ Below w.heap.size w w' := by
  have hni : (n : Int) ≤ 255 := by omega
  go_enter Try.func8, Try.ntmps8
  go_wp2_with fail
  refine (awake_any _).mono ?_
  rintro e w1 ⟨rfl, hb1⟩
  go_wp2_with fail
  have hnew : Calls Try.prog 21 #[] w1 fun e w' => e = .returned (.slice none 0 0) ∧ w1 = w' := by
    go_enter Try.func21, Try.ntmps21
    go_wp2
    go_ret
    exact ⟨rfl, rfl⟩
  refine hnew.mono ?_
  rintro e w' ⟨rfl, rfl⟩
  clear hnew
  go_wp2_with fail
  refine (encode_any _ [] _ (by simp) (Raw.empty _ _ _) (fun x hx => by cases hx)).mono ?_
  rintro e w2 ⟨v2, rfl, hr2, hb2⟩
  have bel2 := hb1.trans (hb2.mono hb1.size)
  have HB2 := Lib.hid (BRow.bytes (F := []) hr2 (fun f hf => by cases hf))
  clear hr2 hb2 hb1
  go_wp2
  go_loopw [3, 4] (fun iv i wr => ∃ (k : Nat), k ≤ 36 ∧ i = .int .i64 k ∧ Bytes [] wr iv (encV (stN k)) ∧ Below w.heap.size w wr) (fun _ i _ => 36 - (intOf i).toNat)
  case atStart => exact ⟨0, by omega, rfl, HB2.out, bel2⟩
  case round =>
    clear HB2 bel2
    obtain ⟨k, hk, rfl, hB, bel⟩ := hrel
    obtain ⟨ia, ic, rfl⟩ := Raw.slice hB
    have HB := Lib.hid hB
    clear hB
    have hsz := bel.size
    by_cases hlt : k < 36
    · have hlti : (k : Int) < 36 := by omega
      have HREG := Lib.hid (sp_reg hlt)
      have HV := Lib.hid (sp_valid (show k < 37 by omega))
      have HOK := Lib.hid (fr_ok hlt)
      obtain ⟨s1, s2, z1, z2, hns, c1, c2, c3, c4⟩ := nm_parts k hlt
      have HNS := Lib.hid hns
      clear hns
      by_cases h4 : k < 4
      · have HFR := Lib.hid (fr_low h4)
        go_wp2_with fail
        rw [HNS.out, HFR.out]
        refine (ask_any _ (stN k) (frOf k) 1 (nmOf k) _ HV.out HOK.out (by decide) (by simp [nmOf]) HB.out).mono ?_
        rw [HREG.out]
        rintro e w5 ⟨v5, rfl, hr5, hb5⟩
        have bel5 := bel.trans (hb5.mono hsz)
        have HB5 := Lib.hid (BRow.bytes (F := []) hr5 (fun f hf => by cases hf))
        clear hr5 hb5 c1 c2 c3 c4
        go_wp2
        go_roundw
        case rel => exact ⟨k + 1, by omega, by go_num, HB5.out, bel5⟩
        case measure => simp [intOf]; omega
      · have HFR := Lib.hid (fr_high h4)
        go_wp2_with fail
        rw [HNS.out, HFR.out]
        refine (ask_any _ (stN k) (frOf k) 1 (nmOf k) _ HV.out HOK.out (by decide) (by simp [nmOf]) HB.out).mono ?_
        rw [HREG.out]
        rintro e w5 ⟨v5, rfl, hr5, hb5⟩
        have bel5 := bel.trans (hb5.mono hsz)
        have HB5 := Lib.hid (BRow.bytes (F := []) hr5 (fun f hf => by cases hf))
        clear hr5 hb5 c1 c2 c3 c4
        go_wp2
        go_roundw
        case rel => exact ⟨k + 1, by omega, by go_num, HB5.out, bel5⟩
        case measure => simp [intOf]; omega
    · obtain rfl : k = 36 := by omega
      clear hlt hk
      have HV := Lib.hid (sp_valid (show 36 < 37 by omega))
      go_upto_region 15 with (fail)
      rw [show (n : Int) % 36 = ((n % 36 : Nat) : Int) by omega]
      have hK : n % 36 < 36 := by omega
      generalize n % 36 = K at hK ⊢
      have HOK := Lib.hid (fr_ok hK)
      obtain ⟨s1, s2, z1, z2, hns, c1, c2, c3, c4⟩ := nm_parts K hK
      have HNS := Lib.hid hns
      clear hns
      by_cases h4 : K < 4
      · have HFR := Lib.hid (fr_low h4)
        go_wp2_with fail
        rw [HNS.out, HFR.out]
        have HX := Lib.hid (sp_full hK)
        have HY := Lib.hid (sp_rel hK)
        have HZ := Lib.hid (sp_left hK)
        refine (ask_any _ (stN 36) (frOf K) 1 [120] _ HV.out HOK.out (by decide) (by decide) HB.out).mono ?_
        rw [HX.out]
        rintro e w5 ⟨v5, rfl, hr5, hb5⟩
        have HB5 := Lib.hid (Raw.below HB.out hb5)
        have bel5 := bel.trans (hb5.mono hsz)
        have hsz5 := bel5.size
        clear hr5 hb5 c1 c2 c3 c4
        go_wp2_with fail
        refine (ask_any _ (stN 36) (frOf K) 2 (nmOf K) _ HV.out HOK.out (by decide) (by simp [nmOf]) HB5.out).mono ?_
        rw [HY.out]
        rintro e w6 ⟨v6, rfl, hr6, hb6⟩
        have HB6 := Lib.hid (BRow.bytes (F := []) hr6 (fun f hf => by cases hf))
        have bel6 := bel5.trans (hb6.mono hsz5)
        have hsz6 := bel6.size
        clear hr6 hb6
        go_wp2_with fail
        refine (ask_any _ (leftN K) (frOf K) 1 [120] _ HZ.out.1 HOK.out (by decide) (by decide) HB6.out).mono ?_
        obtain ⟨D, hD⟩ : ∃ D, doN (leftN K) 1 [120] (frOf K) = D := ⟨_, rfl⟩
        have hz := HZ.out.2
        rw [hD] at hz ⊢
        obtain ⟨D1, D2⟩ := D
        simp only at hz
        subst hz
        rintro e w7 ⟨v7, rfl, hr7, hb7⟩
        have bel7 := bel6.trans (hb7.mono hsz6)
        clear hr7 hb7 hD
        go_wp2
        go_ret
        exact ⟨by simp, bel7⟩
      · have HFR := Lib.hid (fr_high h4)
        go_wp2_with fail
        rw [HNS.out, HFR.out]
        have HX := Lib.hid (sp_full hK)
        have HY := Lib.hid (sp_rel hK)
        have HZ := Lib.hid (sp_left hK)
        refine (ask_any _ (stN 36) (frOf K) 1 [120] _ HV.out HOK.out (by decide) (by decide) HB.out).mono ?_
        rw [HX.out]
        rintro e w5 ⟨v5, rfl, hr5, hb5⟩
        have HB5 := Lib.hid (Raw.below HB.out hb5)
        have bel5 := bel.trans (hb5.mono hsz)
        have hsz5 := bel5.size
        clear hr5 hb5 c1 c2 c3 c4
        go_wp2_with fail
        refine (ask_any _ (stN 36) (frOf K) 2 (nmOf K) _ HV.out HOK.out (by decide) (by simp [nmOf]) HB5.out).mono ?_
        rw [HY.out]
        rintro e w6 ⟨v6, rfl, hr6, hb6⟩
        have HB6 := Lib.hid (BRow.bytes (F := []) hr6 (fun f hf => by cases hf))
        have bel6 := bel5.trans (hb6.mono hsz5)
        have hsz6 := bel6.size
        clear hr6 hb6
        go_wp2_with fail
        refine (ask_any _ (leftN K) (frOf K) 1 [120] _ HZ.out.1 HOK.out (by decide) (by decide) HB6.out).mono ?_
        obtain ⟨D, hD⟩ : ∃ D, doN (leftN K) 1 [120] (frOf K) = D := ⟨_, rfl⟩
        have hz := HZ.out.2
        rw [hD] at hz ⊢
        obtain ⟨D1, D2⟩ := D
        simp only at hz
        subst hz
        rintro e w7 ⟨v7, rfl, hr7, hb7⟩
        have bel7 := bel6.trans (hb7.mono hsz6)
        clear hr7 hb7 hD
        go_wp2
        go_ret
        exact ⟨by simp, bel7⟩
end Go.Proofs.Ytfgbkfifiioeiaa
