/- Ledger: the walk of LedgerEncoding -/
import Derived.Test.YtjlfpofgiicmcaaLr
import Derived.Test.YtjlfpofgiicmcaaLh
namespace Go.Lg
open Go Go.RowKit Go.Bs Go.Cl Go.Rw Go.Wi
theorem valid_ge {l : List Lt} (h : validL l = true) : ∀ k, k < l.length → (k : Int) ≤ (ltAt l k).t
  | 0, hk => by have := (okL_iff.1 (validL_at h hk)).1; simpa using this
  | k + 1, hk => by
    have h1 := valid_ge h k (by omega)
    have h2 := valid_lt h (k + 1) k (by omega) hk
    omega
theorem valid_len {l : List Lt} (h : validL l = true) : l.length ≤ 32 := by
  rcases Nat.lt_or_ge 32 l.length with hl | hl
  · have h1 := valid_ge h 32 hl
    have h2 := (okL_iff.1 (validL_at h hl)).2.1
    omega
  · exact hl
theorem decN_enc : ∀ (l' : List Lt) (p t : List UInt8) (acc : List Lt) (b : List UInt8), (∀ x ∈ l', fitsL x) → b = p ++ (l'.flatMap encX ++ t) → decN b l'.length (p.length, false) acc = (acc ++ l', (p ++ l'.flatMap encX).length, false)
  | [], p, t, acc, b, _, _ => by simp [decN]
  | x :: l', p, t, acc, b, hf, hb => by
    have hx := hf x (by simp)
    have h1 := rI_enc (n := x.t) ⟨hx.1, hx.2.1⟩ (b := b) (p := p) (t := encI x.q ++ (l'.flatMap encX ++ t)) (by rw [hb]; simp [encX])
    have h2 := rI_enc (n := x.q) ⟨hx.2.2.1, hx.2.2.2⟩ (b := b) (p := p ++ encI x.t) (t := l'.flatMap encX ++ t) (by rw [hb]; simp [encX])
    rw [List.length_cons, decN_succ, h1]
    simp only
    rw [h2]
    simp only
    rw [decN_enc l' (p ++ encI x.t ++ encI x.q) t _ b (fun y hy => hf y (by simp [hy])) (by rw [hb]; simp [encX])]
    simp [encX]
theorem decL_enc {l : List Lt} (hv : validL l = true) (hf : ∀ x ∈ l, fitsL x) : decL (encV l) = (l, 0) := by
  have hl := valid_len hv
  have he : encV l = encI l.length ++ l.flatMap encX := by simp [encV, hv]
  have hfl : Wi.fits (l.length : Int) := by unfold Wi.fits; omega
  have h0 := rB_enc (n := (l.length : Int)) (lo := 0) (hi := 32) hfl (by omega) (b := encV l) (p := []) (t := l.flatMap encX) (by rw [he]; rfl)
  simp only [List.length_nil, List.nil_append] at h0
  have hdn := decN_enc l (encI l.length) [] [] (encV l) hf (by rw [he]; simp)
  rw [List.nil_append, ← he] at hdn
  unfold decL
  simp only [h0, Int.toNat_natCast, hdn, hv]
  simp [rEnd]
theorem encV_len {l : List Lt} (hf : ∀ x ∈ l, fitsL x) (hl : l.length ≤ 1000) : (encV l).length ≤ 30000 := by
  unfold encV
  split
  · have h1 := encFlat_len hf
    have h2 := encI_len (n := (l.length : Int)) (by unfold Wi.fits; omega)
    rw [List.length_append]; omega
  · simp
theorem decN_len (b : List UInt8) : ∀ (n : Nat) (s : Nat × Bool) (acc : List Lt), (decN b n s acc).1.length = acc.length + n
  | 0, _, _ => rfl
  | n + 1, s, acc => by rw [decN_succ, decN_len b n]; simp; omega
theorem decL_len (b : List UInt8) : (decL b).1.length ≤ 32 := by
  have hb := rB_bound b (lo := 0) (hi := 32) (by omega) (by omega) (0, false)
  unfold decL
  simp only
  split
  · simp only [decN_len]; simp; omega
  · simp
end Go.Lg
namespace Go.Proofs.Ytjlfpofgiicmcaa
open Go.RowKit Go.Bs Go.Cl Go.Rw Go.Lg Go.Wi
set_option maxRecDepth 100000 in
set_option maxHeartbeats 4000000 in
theorem enc_any (lv bv : Value) (l : List Lt) (b : List UInt8) (w : World) (hL : SlL w lv l) (hf : ∀ x ∈ l, fitsL x) (hB : Bytes [] w bv b) :
    Calls Try.prog 7 #[lv, bv] w fun e w' => e = .returned (.bool true) ∧ Below w.heap.size w w' := by
  obtain ⟨la, lc, rfl⟩ := Raw.slice hL
  obtain ⟨ba, bc, rfl⟩ := Raw.slice hB
  have HL := Lib.hid hL; clear hL
  have HB := Lib.hid hB; clear hB
  have HF := Lib.hid hf; clear hf
  by_cases h40 : 40 < l.length
  · have g1 : (40 : Int) < l.length := by omega
    go_enter Try.func7, Try.ntmps7
    go_wp2_with fail
    refine (awake_any _).mono ?_
    rintro e w1 ⟨rfl, hb1⟩
    go_wp2
    go_ret
    exact ⟨rfl, hb1⟩
  by_cases h400 : 400 < b.length
  · have g1 : (400 : Int) < b.length := by omega
    have g2 : (l.length : Int) ≤ 40 := by omega
    go_enter Try.func7, Try.ntmps7
    go_wp2_with fail
    refine (awake_any _).mono ?_
    rintro e w1 ⟨rfl, hb1⟩
    go_wp2
    go_ret
    exact ⟨rfl, hb1⟩
  have g1 : (b.length : Int) ≤ 400 := by omega
  have g2 : (l.length : Int) ≤ 40 := by omega
  have hbl : b.length ≤ 1000000 := by omega
  have hl3 : l.length ≤ 1000 := by omega
  have hl6 : l.length ≤ 1000000 := by omega
  have hxl := decL_len b
  obtain ⟨D, hD⟩ : ∃ D, decL b = D := ⟨_, rfl⟩
  have hbackl := decL_len (encV l)
  obtain ⟨K, hK⟩ : ∃ K, decL (encV l) = K := ⟨_, rfl⟩
  have hback : validL l = true → K = (l, 0) := fun h => by rw [← hK]; exact decL_enc h HF.out
  have hevl := encV_len HF.out hl3
  obtain ⟨V, hV⟩ : ∃ V, encV l = V := ⟨_, rfl⟩
  rw [hV] at hevl
  rw [hD] at hxl
  rw [hK] at hbackl
  have HD := Lib.hid hD; have HK := Lib.hid hK; have HV := Lib.hid hV; have Hback := Lib.hid hback; have Hevl := Lib.hid hevl
  clear hD hK hV hback hevl
  obtain ⟨X, ex⟩ := D
  obtain ⟨Kl, ek⟩ := K
  simp only at hxl hbackl
  have hx6 : X.length ≤ 1000000 := by omega
  have hk6 : Kl.length ≤ 1000000 := by omega
  clear hxl hbackl
  go_enter Try.func7, Try.ntmps7
  go_wp2_with fail
  refine (awake_any _).mono ?_
  rintro e w1 ⟨rfl, hb1⟩
  go_wp2_with fail
  refine (decode_any _ b _ (Raw.below HB.out hb1) hbl).mono ?_
  rw [HD.out]
  rintro e w2 ⟨v2, rfl, hx2, hb2⟩
  have hbel2 := hb1.trans (hb2.mono hb1.size)
  obtain ⟨a2, c2, rfl⟩ := Raw.slice hx2
  have HX2 := Lib.hid hx2
  clear hb1 hb2 hx2
  go_wp2_with fail
  refine (rdecode_any _ b _ (Raw.below HB.out hbel2) hbl).mono ?_
  rw [HD.out]
  rintro e w3 ⟨v3, rfl, hx3, hb3⟩
  have hbel3 := hbel2.trans (hb3.mono hbel2.size)
  obtain ⟨a3, c3, rfl⟩ := Raw.slice hx3
  have HY3 := Lib.hid hx3
  have HX3 := Lib.hid (HX2.out.below hb3)
  clear hb3 hx3
  go_wp2_with fail
  refine (to_any _ l _ hl6 (HL.out.below hbel3)).mono ?_
  rintro e w4 ⟨v4, rfl, hx4, hb4⟩
  have hbel4 := hbel3.trans (hb4.mono hbel3.size)
  obtain ⟨a4, c4, rfl⟩ := Raw.slice hx4
  have HT4 := Lib.hid hx4
  have HX4 := Lib.hid (HX3.out.below hb4)
  have HY4 := Lib.hid (HY3.out.below hb4)
  clear hb4 hx4
  go_wp2_with fail
  refine (encode_any _ l _ hl3 HT4.out HF.out).mono ?_
  rw [HV.out]
  rintro e w5 ⟨v5, rfl, hr5, hb5⟩
  have hbel5 := hbel4.trans (hb5.mono hbel4.size)
  obtain ⟨a5, c5, rfl⟩ := own_slice hr5
  have HS5 := Lib.hid (BRow.bytes (F := []) hr5 (fun f hf => by cases hf))
  have HX5 := Lib.hid (HX4.out.below hb5)
  have HY5 := Lib.hid (HY4.out.below hb5)
  clear hb5 hr5
  go_wp2_with fail
  refine (decode_any _ V _ HS5.out (by have := Hevl.out; omega)).mono ?_
  rw [← HV.out, HK.out, HV.out]
  rintro e w6 ⟨v6, rfl, hx6', hb6⟩
  have hbel6 := hbel5.trans (hb6.mono hbel5.size)
  obtain ⟨a6, c6, rfl⟩ := Raw.slice hx6'
  have HZ6 := Lib.hid hx6'
  have HX6 := Lib.hid (HX5.out.below hb6)
  have HY6 := Lib.hid (HY5.out.below hb6)
  have hS6 := Raw.below HS5.out hb6
  obtain ⟨bl, hbl1, hbl2⟩ := Raw.blocks hS6 (by omega)
  have HS6 := Lib.hid hS6
  clear hb6 hx6' hS6
  have hS0 : ∀ b ∈ bl, ∃ c e f, w6.heap[b]? = some (.cells c e f) := fun b hb => (hbl2 b hb).2
  have HSs := Lib.hid (same_start hS0)
  have Hbl1 := Lib.hid hbl1
  clear hbl1 hbl2
  have hbelD := hbel6.drew
  have k1 := run_str HS6.out.drew 43 5 9 Try.underlying43 Try.underlying5 Try.underlying9
  go_wp2
  refine Txt.wp_cut [4] bl [1] [13, 15, 19, 26, 28] (by kernel_rfl) (by kernel_rfl) (by kernel_rfl) hS0 ?_
  clear hS0
  simp only [Txt.wpCut, List.take_succ_cons, List.take_zero, List.drop_succ_cons, List.drop_zero]
  go_wp2_with fail
  refine (rencode_any _ l _ hl3 (HL.out.below hbelD) HF.out).mono ?_
  rw [HV.out]
  rintro e w7 ⟨v7, rfl, hr7, hb7⟩
  have HS7 := Lib.hid (same_below' HSs.out hb7)
  have hbel7 := hbelD.trans (hb7.mono hbelD.size)
  have HX7 := Lib.hid (HX6.out.below (((Below.refl _ w6).drew).trans hb7))
  have HY7 := Lib.hid (HY6.out.below (((Below.refl _ w6).drew).trans hb7))
  have HZ7 := Lib.hid (HZ6.out.below (((Below.refl _ w6).drew).trans hb7))
  have hv7 := BRow.bytes (F := []) hr7 (fun f hf => by cases hf)
  obtain ⟨a7, c7, rfl⟩ := Raw.slice hv7
  have k2 := run_str hv7 43 5 9 Try.underlying43 Try.underlying5 Try.underlying9
  clear hb7 hr7 hv7
  go_wp2
  refine Txt.SegPost.mk HS7.out ?_
  go_wp2_with fail
  refine (from_any _ X _ hx6 HX7.out).mono ?_
  rintro e w8 ⟨v8, rfl, hx8, hb8⟩
  have hbel8 := hbel7.trans (hb8.mono hbel7.size)
  have HF8 := Lib.hid hx8
  have HY8 := Lib.hid (HY7.out.below hb8)
  have HZ8 := Lib.hid (HZ7.out.below hb8)
  obtain ⟨a8, c8, rfl⟩ := Raw.slice hx8
  clear hb8 hx8 k1 k2
  go_wp2_with fail
  refine (requal_any _ _ X X _ hx6 hx6 HF8.out HY8.out).mono ?_
  rw [eqL_refl]
  rintro e w9 ⟨rfl, hb9⟩
  have hbel9 := hbel8.trans (hb9.mono hbel8.size)
  have HZ9 := Lib.hid (HZ8.out.below hb9)
  clear hb9
  cases hv : validL l
  · have hrv := rvalid_eq hl6 (HL.out.below hbel9) hv
    have Hrv := Lib.hid hrv
    clear hv hrv
    go_wp2_with fail
    refine Hrv.out.mono ?_
    rintro e w10 ⟨rfl, hb10⟩
    have hbel10 := hbel9.trans (hb10.mono hbel9.size)
    clear hb10
    go_wp2
    refine Txt.DrawPost.mk (by rfl) ⟨Hbl1.out _ (fun b hb => hb), trivial⟩ ?_
    go_wp2
    go_ret
    exact ⟨rfl, hbel10⟩
  · have hrv := rvalid_eq hl6 (HL.out.below hbel9) hv
    have hkk := Hback.out hv
    cases hkk
    have Hrv := Lib.hid hrv
    clear hv hrv
    go_wp2_with fail
    refine Hrv.out.mono ?_
    rintro e w10 ⟨rfl, hb10⟩
    have hbel10 := hbel9.trans (hb10.mono hbel9.size)
    have HZ10 := Lib.hid (HZ9.out.below hb10)
    clear hb10
    go_wp2_with fail
    refine (from_any _ l _ hl6 HZ10.out).mono ?_
    rintro e w11 ⟨v11, rfl, hx11, hb11⟩
    have hbel11 := hbel10.trans (hb11.mono hbel10.size)
    have HF11 := Lib.hid hx11
    obtain ⟨a11, c11, rfl⟩ := Raw.slice hx11
    clear hb11 hx11
    go_wp2_with fail
    refine (requal_any _ _ l l _ hl6 hl6 HF11.out (HL.out.below hbel11)).mono ?_
    rw [eqL_refl]
    rintro e w12 ⟨rfl, hb12⟩
    have hbel12 := hbel11.trans (hb12.mono hbel11.size)
    clear hb12
    go_wp2
    refine Txt.DrawPost.mk (by rfl) ⟨Hbl1.out _ (fun b hb => hb), trivial⟩ ?_
    go_wp2
    go_ret
    exact ⟨rfl, hbel12⟩
end Go.Proofs.Ytjlfpofgiicmcaa
