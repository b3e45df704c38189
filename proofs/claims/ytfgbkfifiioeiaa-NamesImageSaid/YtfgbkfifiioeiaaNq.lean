/- names: NamesImage -/
import Derived.Test.YtfgbkfifiioeiaaNp
namespace Go.Proofs.Ytfgbkfifiioeiaa
open Go.RowKit Go.Bs Go.Cl Go.Rw Go.Nm Go.Wi
set_option maxRecDepth 100000 in
set_option maxHeartbeats 16000000 in
theorem image_any (lv rv : Value) (X : List Nm) (raw : List UInt8) (w : World) (hft : ∀ x ∈ X, Wi.fits x.t) (hL : SlN w lv X) (hR : Bytes [] w rv raw) :
    Calls Try.prog 3 #[lv, rv] w fun e w' => e = .returned (.bool true) ∧ Below w.heap.size w w' := by
  obtain ⟨la, lc, rfl⟩ := Raw.slice hL
  obtain ⟨ra, rc, rfl⟩ := Raw.slice hR
  have HL := Lib.hid hL; have HR := Lib.hid hR; have HFT := Lib.hid hft
  clear hL hR hft
  go_enter Try.func3, Try.ntmps3
  go_wp2_with fail
  refine (awake_any _).mono ?_
  rintro e w1 ⟨rfl, bel1⟩
  have HL1 := Lib.hid (HL.out.below bel1)
  have HR1 := Lib.hid (Raw.below HR.out bel1)
  clear HL HR
  cases hfew : few X
  · have HFW := Lib.hid hfew; clear hfew
    go_wp2_with fail
    refine (few_eq _ X false _ HL1.out HFW.out).mono ?_
    rintro e w' ⟨rfl, rfl⟩
    go_wp2
    go_ret
    exact ⟨rfl, bel1⟩
  obtain ⟨hl50, hn40⟩ := few_len hfew
  have HF : Hid (∀ x ∈ X, fitsN x) := Lib.hid (fun x hx => ⟨by have := hn40 x hx; omega, HFT.out x hx⟩)
  have HE := Lib.hid (encV_len HF.out (by omega))
  have HFW := Lib.hid hfew
  clear hn40 hfew HFT
  by_cases hr : raw.length ≤ 1000
  rotate_left
  · have hr' : (1000 : Int) < (raw.length : Int) := by omega
    go_wp2_with fail
    refine (few_eq _ X true _ HL1.out HFW.out).mono ?_
    rintro e w' ⟨rfl, rfl⟩
    go_wp2
    go_ret
    exact ⟨rfl, bel1⟩
  have hr' : (raw.length : Int) ≤ 1000 := by omega
  obtain ⟨b, hb⟩ : ∃ b, validN X = b := ⟨_, rfl⟩
  have HV := Lib.hid hb
  clear hb
  rcases dec_cases raw with h0 | h0
  · have h1 := enc_dec h0
    obtain ⟨D, hD⟩ : ∃ D, decL raw = D := ⟨_, rfl⟩
    rw [hD] at h0 h1
    obtain ⟨T, E⟩ := D
    simp only at h0 h1
    subst h0
    have HD1 := Lib.hid hD; have HET := Lib.hid h1.1; have HVT := Lib.hid h1.2
    clear hD h1
    cases b
    · have HD0 : Hid (decL (encV X) = ([], 4)) := Lib.hid (dec_bad HF.out (by omega) HV.out)
      go_wp2_with fail
      refine (few_eq _ X true _ HL1.out HFW.out).mono ?_
      rintro e w' ⟨rfl, rfl⟩
      go_wp2_with fail
      refine (own_any _ X _ (by omega) HL1.out).mono ?_
      rintro e w2 ⟨v2, rfl, hO2, hb2⟩
      have bel2 := bel1.trans (hb2.mono bel1.size)
      have HL2 := Lib.hid (Raw.below HL1.out hb2)
      have HR2 := Lib.hid (Raw.below HR1.out hb2)
      clear HL1 HR1
      go_wp2_with fail
      refine (encode_any _ X _ (by omega) hO2 HF.out).mono ?_
      rintro e w3 ⟨v3, rfl, hr3, hb3⟩
      have bel3 := bel2.trans (hb3.mono bel2.size)
      have HL3 := Lib.hid (Raw.below HL2.out hb3)
      have HR3 := Lib.hid (Raw.below HR2.out hb3)
      clear HL2 HR2
      have HB3 := Lib.hid (BRow.bytes (F := []) hr3 (fun f hf => by cases hf))
      obtain ⟨a3, c3, hv3⟩ := own_slice hr3
      subst hv3
      clear hr3 hO2
      go_wp2_with fail
      refine (decode_any _ (encV X) _ HB3.out (by have := HE.out; omega)).mono ?_
      rw [HD0.out]
      rintro e w4 ⟨v4, rfl, hs4, hb4⟩
      have bel4 := bel3.trans (hb4.mono bel3.size)
      have HL4 := Lib.hid (Raw.below HL3.out hb4)
      have HR4 := Lib.hid (Raw.below HR3.out hb4)
      have HB4 := Lib.hid (Raw.below HB3.out hb4)
      clear HL3 HR3 HB3
      have HD4 := Lib.hid hs4
      obtain ⟨a4, c4, hv4⟩ := Raw.slice hs4
      subst hv4
      clear hs4
      go_wp2_with fail
      refine (decode_any _ raw _ HR4.out (by omega)).mono ?_
      rw [HD1.out]
      rintro e w5 ⟨v5, rfl, hs5, hb5⟩
      have bel5 := bel4.trans (hb5.mono bel4.size)
      have HL5 := Lib.hid (Raw.below HL4.out hb5)
      have HR5 := Lib.hid (Raw.below HR4.out hb5)
      have HB5 := Lib.hid (Raw.below HB4.out hb5)
      have HD5 := Lib.hid (Raw.below HD4.out hb5)
      clear HL4 HR4 HB4 HD4
      have HT5 := Lib.hid hs5
      obtain ⟨a5, c5, hv5⟩ := Raw.slice hs5
      subst hv5
      clear hs5
      go_wp2_with fail
      refine (rdecode_any _ raw _ HR5.out (by omega)).mono ?_
      rw [HD1.out]
      rintro e w6 ⟨v6, rfl, hs6, hb6⟩
      have bel6 := bel5.trans (hb6.mono bel5.size)
      have HL6 := Lib.hid (Raw.below HL5.out hb6)
      have HR6 := Lib.hid (Raw.below HR5.out hb6)
      have HB6 := Lib.hid (Raw.below HB5.out hb6)
      have HD6 := Lib.hid (Raw.below HD5.out hb6)
      have HT6 := Lib.hid (Raw.below HT5.out hb6)
      clear HL5 HR5 HB5 HD5 HT5
      clear hs6
      simp only
      go_upto_region 9 with (fail)
      obtain ⟨blb, qb1, qb2⟩ := Raw.blocks HB6.out (by omega)
      obtain ⟨blr, qr1, qr2⟩ := Raw.blocks HR6.out (by omega)
      have Hqb := Lib.hid qb1
      have Hqr := Lib.hid qr1
      have Hbl : Hid (∀ q ∈ blb ++ blr, ∃ cc e f, w6.heap[q]? = some (.cells cc e f)) := Lib.hid (fun q hq => by
        rcases List.mem_append.1 hq with h | h
        · exact (qb2 q h).2
        · exact (qr2 q h).2)
      clear qb1 qb2 qr1 qr2
      have hBl := show ∀ q ∈ blb ++ blr, ∃ cc e f, w6.heap[q]? = some (.cells cc e f) from Hbl.out
      refine Txt.Ty.wp_tree (blb ++ blr) [1, 27] [] [1, 4, 25, 27] [0, 1, 2] (.alt [3, 4, 5, 6, 7, 10] (.alt [8] (.alt [9] (.alt [11, 12, 13, 14, 15, 16, 17, 18, 19, 20, 21, 22, 23, 26, 27] (.alt [24, 25, 28, 29, 30] (.done) (.no)) (.no)) (.no)) (.no)) (.no)) (by kernel_rfl) (by kernel_rfl) (by kernel_rfl) (by kernel_rfl) hBl ?_
      obtain ⟨w7, hw7⟩ : ∃ y, y = w6.drew := ⟨_, rfl⟩
      have HS7 : Hid (Txt.SameB (blb ++ blr) w7 w7) := Lib.hid (by rw [hw7]; exact same_start hBl)
      clear hBl
      rw [← hw7]
      have hd : Below w6.heap.size w6 w7 := by rw [hw7]; exact (Below.refl _ _).drew
      have bel7 := bel6.trans (hd.mono bel6.size)
      have HL7 := Lib.hid (Raw.below HL6.out hd)
      have HR7 := Lib.hid (Raw.below HR6.out hd)
      have HB7 := Lib.hid (Raw.below HB6.out hd)
      have HD7 := Lib.hid (Raw.below HD6.out hd)
      have HT7 := Lib.hid (Raw.below HT6.out hd)
      clear HL6 HR6 HB6 HD6 HT6
      clear hd hw7
      have k1 := run_str HB7.out 23 5 9 Try.underlying23 Try.underlying5 Try.underlying9
      (try simp only [Txt.pick, List.getElem?_cons_succ, List.getElem?_cons_zero])
      go_wp2
      refine Txt.RunPost.mk ?_
      refine Txt.Ty.wpTr_alt ?_ Txt.Ty.wpTr_no
      (try simp only [Txt.pick, List.getElem?_cons_succ, List.getElem?_cons_zero])
      go_wp2_with fail
      refine (rencode_any _ X _ (by omega) HL7.out HF.out).mono ?_
      rintro e w8 ⟨v8, rfl, hr8, hb8⟩
      have bel8 := bel7.trans (hb8.mono bel7.size)
      have HL8 := Lib.hid (Raw.below HL7.out hb8)
      have HR8 := Lib.hid (Raw.below HR7.out hb8)
      have HB8 := Lib.hid (Raw.below HB7.out hb8)
      have HD8 := Lib.hid (Raw.below HD7.out hb8)
      have HT8 := Lib.hid (Raw.below HT7.out hb8)
      clear HL7 HR7 HB7 HD7 HT7
      have HS8 := Lib.hid (same_below' HS7.out hb8)
      have k2 := run_str (BRow.bytes (F := []) hr8 (fun f hf => by cases hf)) 23 5 9 Try.underlying23 Try.underlying5 Try.underlying9
      obtain ⟨a8, c8, hv8⟩ := own_slice hr8
      subst hv8
      clear hr8 hb8 k1
      go_wp2
      refine Txt.SegPost.mk (Txt.Ty.Shown.same HS8.out) ?_
      (try simp only [Txt.pick, List.getElem?_cons_succ, List.getElem?_cons_zero])
      go_wp2
      refine Txt.RunPost.mk ?_
      refine Txt.Ty.wpTr_alt ?_ Txt.Ty.wpTr_no
      (try simp only [Txt.pick, List.getElem?_cons_succ, List.getElem?_cons_zero])
      clear k2
      go_wp2_with fail
      refine (own_any _ X _ (by omega) HL8.out).mono ?_
      rintro e w9 ⟨v9, rfl, hO9, hb9⟩
      have bel9 := bel8.trans (hb9.mono bel8.size)
      have HL9 := Lib.hid (Raw.below HL8.out hb9)
      have HR9 := Lib.hid (Raw.below HR8.out hb9)
      have HB9 := Lib.hid (Raw.below HB8.out hb9)
      have HD9 := Lib.hid (Raw.below HD8.out hb9)
      have HT9 := Lib.hid (Raw.below HT8.out hb9)
      clear HL8 HR8 HB8 HD8 HT8
      have HS9 := Lib.hid (same_below' HS8.out hb9)
      go_wp2
      refine Txt.SegPost.mk (Txt.Ty.Shown.same HS9.out) ?_
      (try simp only [Txt.pick, List.getElem?_cons_succ, List.getElem?_cons_zero])
      go_wp2
      refine Txt.RunPost.mk ?_
      refine Txt.Ty.wpTr_alt ?_ Txt.Ty.wpTr_no
      (try simp only [Txt.pick, List.getElem?_cons_succ, List.getElem?_cons_zero])
      go_wp2_with fail
      refine (valid_any _ X _ (by omega) hO9).mono ?_
      rw [HV.out]
      rintro e w10 ⟨rfl, hb10⟩
      have bel10 := bel9.trans (hb10.mono bel9.size)
      have HL10 := Lib.hid (Raw.below HL9.out hb10)
      have HR10 := Lib.hid (Raw.below HR9.out hb10)
      have HB10 := Lib.hid (Raw.below HB9.out hb10)
      have HD10 := Lib.hid (Raw.below HD9.out hb10)
      have HT10 := Lib.hid (Raw.below HT9.out hb10)
      clear HL9 HR9 HB9 HD9 HT9
      have HS10 := Lib.hid (same_below' HS9.out hb10)
      clear hO9
      go_wp2
      refine Txt.SegPost.mk (Txt.Ty.Shown.same HS10.out) ?_
      (try simp only [Txt.pick, List.getElem?_cons_succ, List.getElem?_cons_zero])
      go_wp2
      refine Txt.RunPost.mk ?_
      refine Txt.Ty.wpTr_alt ?_ Txt.Ty.wpTr_no
      (try simp only [Txt.pick, List.getElem?_cons_succ, List.getElem?_cons_zero])
      go_wp2_with fail
      refine (rvalid_any _ X _ (by omega) (fun x hx => by have := (HF.out x hx).1; omega) HL10.out).mono ?_
      rw [HV.out]
      rintro e w11 ⟨rfl, hb11⟩
      have bel11 := bel10.trans (hb11.mono bel10.size)
      have HL11 := Lib.hid (Raw.below HL10.out hb11)
      have HR11 := Lib.hid (Raw.below HR10.out hb11)
      have HB11 := Lib.hid (Raw.below HB10.out hb11)
      have HD11 := Lib.hid (Raw.below HD10.out hb11)
      have HT11 := Lib.hid (Raw.below HT10.out hb11)
      clear HL10 HR10 HB10 HD10 HT10
      have HS11 := Lib.hid (same_below' HS10.out hb11)
      have k3 := run_str HR11.out 23 5 9 Try.underlying23 Try.underlying5 Try.underlying9
      go_wp2
      refine Txt.SegPost.mk (Txt.Ty.Shown.same HS11.out) ?_
      (try simp only [Txt.pick, List.getElem?_cons_succ, List.getElem?_cons_zero])
      go_wp2
      refine Txt.RunPost.mk ?_
      refine Txt.Ty.wpTr_alt ?_ Txt.Ty.wpTr_no
      (try simp only [Txt.pick, List.getElem?_cons_succ, List.getElem?_cons_zero])
      clear k3
      go_wp2_with fail
      refine (encode_any _ T _ (by have := validN_len HVT.out; omega) HT11.out (valid_fits HVT.out)).mono ?_
      rintro e w12 ⟨v12, rfl, hr12, hb12⟩
      have bel12 := bel11.trans (hb12.mono bel11.size)
      have HL12 := Lib.hid (Raw.below HL11.out hb12)
      have HR12 := Lib.hid (Raw.below HR11.out hb12)
      have HB12 := Lib.hid (Raw.below HB11.out hb12)
      have HD12 := Lib.hid (Raw.below HD11.out hb12)
      have HT12 := Lib.hid (Raw.below HT11.out hb12)
      clear HL11 HR11 HB11 HD11 HT11
      have HS12 := Lib.hid (same_below' HS11.out hb12)
      rw [HET.out] at hr12
      have k4 := run_str (BRow.bytes (F := []) hr12 (fun f hf => by cases hf)) 23 5 9 Try.underlying23 Try.underlying5 Try.underlying9
      have k5 := run_str HR12.out 23 5 9 Try.underlying23 Try.underlying5 Try.underlying9
      obtain ⟨a12, c12, hv12⟩ := own_slice hr12
      subst hv12
      clear hr12 hb12
      go_wp2
      refine Txt.SegPost.mk (Txt.Ty.Shown.same HS12.out) ?_
      (try simp only [Txt.pick, List.getElem?_cons_succ, List.getElem?_cons_zero])
      go_wp2
      refine Txt.RunPost.mk ?_
      refine Txt.Ty.wpTr_done (by rfl) ⟨Hqb.out _ (fun q hq => List.mem_append_left _ hq), Hqr.out _ (fun q hq => List.mem_append_right _ hq), trivial⟩ ?_
      clear Hqb Hqr Hbl
      go_wp2_with fail
      refine (rvalid_any _ X _ (by omega) (fun x hx => by have := (HF.out x hx).1; omega) HL12.out).mono ?_
      rw [HV.out]
      rintro e w13 ⟨rfl, hb13⟩
      have bel13 := bel12.trans (hb13.mono bel12.size)
      have HL13 := Lib.hid (Raw.below HL12.out hb13)
      have HR13 := Lib.hid (Raw.below HR12.out hb13)
      have HB13 := Lib.hid (Raw.below HB12.out hb13)
      have HD13 := Lib.hid (Raw.below HD12.out hb13)
      have HT13 := Lib.hid (Raw.below HT12.out hb13)
      clear HL12 HR12 HB12 HD12 HT12
      go_wp2
      go_ret
      exact ⟨by simp, bel13⟩
    · have HD0 : Hid (decL (encV X) = (X, 0)) := Lib.hid (decL_enc HV.out)
      go_wp2_with fail
      refine (few_eq _ X true _ HL1.out HFW.out).mono ?_
      rintro e w' ⟨rfl, rfl⟩
      go_wp2_with fail
      refine (own_any _ X _ (by omega) HL1.out).mono ?_
      rintro e w2 ⟨v2, rfl, hO2, hb2⟩
      have bel2 := bel1.trans (hb2.mono bel1.size)
      have HL2 := Lib.hid (Raw.below HL1.out hb2)
      have HR2 := Lib.hid (Raw.below HR1.out hb2)
      clear HL1 HR1
      go_wp2_with fail
      refine (encode_any _ X _ (by omega) hO2 HF.out).mono ?_
      rintro e w3 ⟨v3, rfl, hr3, hb3⟩
      have bel3 := bel2.trans (hb3.mono bel2.size)
      have HL3 := Lib.hid (Raw.below HL2.out hb3)
      have HR3 := Lib.hid (Raw.below HR2.out hb3)
      clear HL2 HR2
      have HB3 := Lib.hid (BRow.bytes (F := []) hr3 (fun f hf => by cases hf))
      obtain ⟨a3, c3, hv3⟩ := own_slice hr3
      subst hv3
      clear hr3 hO2
      go_wp2_with fail
      refine (decode_any _ (encV X) _ HB3.out (by have := HE.out; omega)).mono ?_
      rw [HD0.out]
      rintro e w4 ⟨v4, rfl, hs4, hb4⟩
      have bel4 := bel3.trans (hb4.mono bel3.size)
      have HL4 := Lib.hid (Raw.below HL3.out hb4)
      have HR4 := Lib.hid (Raw.below HR3.out hb4)
      have HB4 := Lib.hid (Raw.below HB3.out hb4)
      clear HL3 HR3 HB3
      have HD4 := Lib.hid hs4
      obtain ⟨a4, c4, hv4⟩ := Raw.slice hs4
      subst hv4
      clear hs4
      go_wp2_with fail
      refine (decode_any _ raw _ HR4.out (by omega)).mono ?_
      rw [HD1.out]
      rintro e w5 ⟨v5, rfl, hs5, hb5⟩
      have bel5 := bel4.trans (hb5.mono bel4.size)
      have HL5 := Lib.hid (Raw.below HL4.out hb5)
      have HR5 := Lib.hid (Raw.below HR4.out hb5)
      have HB5 := Lib.hid (Raw.below HB4.out hb5)
      have HD5 := Lib.hid (Raw.below HD4.out hb5)
      clear HL4 HR4 HB4 HD4
      have HT5 := Lib.hid hs5
      obtain ⟨a5, c5, hv5⟩ := Raw.slice hs5
      subst hv5
      clear hs5
      go_wp2_with fail
      refine (rdecode_any _ raw _ HR5.out (by omega)).mono ?_
      rw [HD1.out]
      rintro e w6 ⟨v6, rfl, hs6, hb6⟩
      have bel6 := bel5.trans (hb6.mono bel5.size)
      have HL6 := Lib.hid (Raw.below HL5.out hb6)
      have HR6 := Lib.hid (Raw.below HR5.out hb6)
      have HB6 := Lib.hid (Raw.below HB5.out hb6)
      have HD6 := Lib.hid (Raw.below HD5.out hb6)
      have HT6 := Lib.hid (Raw.below HT5.out hb6)
      clear HL5 HR5 HB5 HD5 HT5
      clear hs6
      simp only
      go_upto_region 9 with (fail)
      obtain ⟨blb, qb1, qb2⟩ := Raw.blocks HB6.out (by omega)
      obtain ⟨blr, qr1, qr2⟩ := Raw.blocks HR6.out (by omega)
      have Hqb := Lib.hid qb1
      have Hqr := Lib.hid qr1
      have Hbl : Hid (∀ q ∈ blb ++ blr, ∃ cc e f, w6.heap[q]? = some (.cells cc e f)) := Lib.hid (fun q hq => by
        rcases List.mem_append.1 hq with h | h
        · exact (qb2 q h).2
        · exact (qr2 q h).2)
      clear qb1 qb2 qr1 qr2
      have hBl := show ∀ q ∈ blb ++ blr, ∃ cc e f, w6.heap[q]? = some (.cells cc e f) from Hbl.out
      refine Txt.Ty.wp_tree (blb ++ blr) [1, 27] [] [1, 4, 25, 27] [0, 1, 2] (.alt [3, 4, 5, 6, 7, 10] (.alt [8] (.alt [9] (.alt [11, 12, 13, 14, 15, 16, 17, 18, 19, 20, 21, 22, 23, 26, 27] (.alt [24, 25, 28, 29, 30] (.done) (.no)) (.no)) (.no)) (.no)) (.no)) (by kernel_rfl) (by kernel_rfl) (by kernel_rfl) (by kernel_rfl) hBl ?_
      obtain ⟨w7, hw7⟩ : ∃ y, y = w6.drew := ⟨_, rfl⟩
      have HS7 : Hid (Txt.SameB (blb ++ blr) w7 w7) := Lib.hid (by rw [hw7]; exact same_start hBl)
      clear hBl
      rw [← hw7]
      have hd : Below w6.heap.size w6 w7 := by rw [hw7]; exact (Below.refl _ _).drew
      have bel7 := bel6.trans (hd.mono bel6.size)
      have HL7 := Lib.hid (Raw.below HL6.out hd)
      have HR7 := Lib.hid (Raw.below HR6.out hd)
      have HB7 := Lib.hid (Raw.below HB6.out hd)
      have HD7 := Lib.hid (Raw.below HD6.out hd)
      have HT7 := Lib.hid (Raw.below HT6.out hd)
      clear HL6 HR6 HB6 HD6 HT6
      clear hd hw7
      have k1 := run_str HB7.out 23 5 9 Try.underlying23 Try.underlying5 Try.underlying9
      (try simp only [Txt.pick, List.getElem?_cons_succ, List.getElem?_cons_zero])
      go_wp2
      refine Txt.RunPost.mk ?_
      refine Txt.Ty.wpTr_alt ?_ Txt.Ty.wpTr_no
      (try simp only [Txt.pick, List.getElem?_cons_succ, List.getElem?_cons_zero])
      go_wp2_with fail
      refine (rencode_any _ X _ (by omega) HL7.out HF.out).mono ?_
      rintro e w8 ⟨v8, rfl, hr8, hb8⟩
      have bel8 := bel7.trans (hb8.mono bel7.size)
      have HL8 := Lib.hid (Raw.below HL7.out hb8)
      have HR8 := Lib.hid (Raw.below HR7.out hb8)
      have HB8 := Lib.hid (Raw.below HB7.out hb8)
      have HD8 := Lib.hid (Raw.below HD7.out hb8)
      have HT8 := Lib.hid (Raw.below HT7.out hb8)
      clear HL7 HR7 HB7 HD7 HT7
      have HS8 := Lib.hid (same_below' HS7.out hb8)
      have k2 := run_str (BRow.bytes (F := []) hr8 (fun f hf => by cases hf)) 23 5 9 Try.underlying23 Try.underlying5 Try.underlying9
      obtain ⟨a8, c8, hv8⟩ := own_slice hr8
      subst hv8
      clear hr8 hb8 k1
      go_wp2
      refine Txt.SegPost.mk (Txt.Ty.Shown.same HS8.out) ?_
      (try simp only [Txt.pick, List.getElem?_cons_succ, List.getElem?_cons_zero])
      go_wp2
      refine Txt.RunPost.mk ?_
      refine Txt.Ty.wpTr_alt ?_ Txt.Ty.wpTr_no
      (try simp only [Txt.pick, List.getElem?_cons_succ, List.getElem?_cons_zero])
      clear k2
      go_wp2_with fail
      refine (own_any _ X _ (by omega) HL8.out).mono ?_
      rintro e w9 ⟨v9, rfl, hO9, hb9⟩
      have bel9 := bel8.trans (hb9.mono bel8.size)
      have HL9 := Lib.hid (Raw.below HL8.out hb9)
      have HR9 := Lib.hid (Raw.below HR8.out hb9)
      have HB9 := Lib.hid (Raw.below HB8.out hb9)
      have HD9 := Lib.hid (Raw.below HD8.out hb9)
      have HT9 := Lib.hid (Raw.below HT8.out hb9)
      clear HL8 HR8 HB8 HD8 HT8
      have HS9 := Lib.hid (same_below' HS8.out hb9)
      go_wp2
      refine Txt.SegPost.mk (Txt.Ty.Shown.same HS9.out) ?_
      (try simp only [Txt.pick, List.getElem?_cons_succ, List.getElem?_cons_zero])
      go_wp2
      refine Txt.RunPost.mk ?_
      refine Txt.Ty.wpTr_alt ?_ Txt.Ty.wpTr_no
      (try simp only [Txt.pick, List.getElem?_cons_succ, List.getElem?_cons_zero])
      go_wp2_with fail
      refine (valid_any _ X _ (by omega) hO9).mono ?_
      rw [HV.out]
      rintro e w10 ⟨rfl, hb10⟩
      have bel10 := bel9.trans (hb10.mono bel9.size)
      have HL10 := Lib.hid (Raw.below HL9.out hb10)
      have HR10 := Lib.hid (Raw.below HR9.out hb10)
      have HB10 := Lib.hid (Raw.below HB9.out hb10)
      have HD10 := Lib.hid (Raw.below HD9.out hb10)
      have HT10 := Lib.hid (Raw.below HT9.out hb10)
      clear HL9 HR9 HB9 HD9 HT9
      have HS10 := Lib.hid (same_below' HS9.out hb10)
      clear hO9
      go_wp2
      refine Txt.SegPost.mk (Txt.Ty.Shown.same HS10.out) ?_
      (try simp only [Txt.pick, List.getElem?_cons_succ, List.getElem?_cons_zero])
      go_wp2
      refine Txt.RunPost.mk ?_
      refine Txt.Ty.wpTr_alt ?_ Txt.Ty.wpTr_no
      (try simp only [Txt.pick, List.getElem?_cons_succ, List.getElem?_cons_zero])
      go_wp2_with fail
      refine (rvalid_any _ X _ (by omega) (fun x hx => by have := (HF.out x hx).1; omega) HL10.out).mono ?_
      rw [HV.out]
      rintro e w11 ⟨rfl, hb11⟩
      have bel11 := bel10.trans (hb11.mono bel10.size)
      have HL11 := Lib.hid (Raw.below HL10.out hb11)
      have HR11 := Lib.hid (Raw.below HR10.out hb11)
      have HB11 := Lib.hid (Raw.below HB10.out hb11)
      have HD11 := Lib.hid (Raw.below HD10.out hb11)
      have HT11 := Lib.hid (Raw.below HT10.out hb11)
      clear HL10 HR10 HB10 HD10 HT10
      have HS11 := Lib.hid (same_below' HS10.out hb11)
      have k3 := run_str HR11.out 23 5 9 Try.underlying23 Try.underlying5 Try.underlying9
      go_wp2
      refine Txt.SegPost.mk (Txt.Ty.Shown.same HS11.out) ?_
      (try simp only [Txt.pick, List.getElem?_cons_succ, List.getElem?_cons_zero])
      go_wp2
      refine Txt.RunPost.mk ?_
      refine Txt.Ty.wpTr_alt ?_ Txt.Ty.wpTr_no
      (try simp only [Txt.pick, List.getElem?_cons_succ, List.getElem?_cons_zero])
      clear k3
      go_wp2_with fail
      refine (encode_any _ T _ (by have := validN_len HVT.out; omega) HT11.out (valid_fits HVT.out)).mono ?_
      rintro e w12 ⟨v12, rfl, hr12, hb12⟩
      have bel12 := bel11.trans (hb12.mono bel11.size)
      have HL12 := Lib.hid (Raw.below HL11.out hb12)
      have HR12 := Lib.hid (Raw.below HR11.out hb12)
      have HB12 := Lib.hid (Raw.below HB11.out hb12)
      have HD12 := Lib.hid (Raw.below HD11.out hb12)
      have HT12 := Lib.hid (Raw.below HT11.out hb12)
      clear HL11 HR11 HB11 HD11 HT11
      have HS12 := Lib.hid (same_below' HS11.out hb12)
      rw [HET.out] at hr12
      have k4 := run_str (BRow.bytes (F := []) hr12 (fun f hf => by cases hf)) 23 5 9 Try.underlying23 Try.underlying5 Try.underlying9
      have k5 := run_str HR12.out 23 5 9 Try.underlying23 Try.underlying5 Try.underlying9
      obtain ⟨a12, c12, hv12⟩ := own_slice hr12
      subst hv12
      clear hr12 hb12
      go_wp2
      refine Txt.SegPost.mk (Txt.Ty.Shown.same HS12.out) ?_
      (try simp only [Txt.pick, List.getElem?_cons_succ, List.getElem?_cons_zero])
      go_wp2
      refine Txt.RunPost.mk ?_
      refine Txt.Ty.wpTr_done (by rfl) ⟨Hqb.out _ (fun q hq => List.mem_append_left _ hq), Hqr.out _ (fun q hq => List.mem_append_right _ hq), trivial⟩ ?_
      clear Hqb Hqr Hbl
      go_wp2_with fail
      refine (rvalid_any _ X _ (by omega) (fun x hx => by have := (HF.out x hx).1; omega) HL12.out).mono ?_
      rw [HV.out]
      rintro e w13 ⟨rfl, hb13⟩
      have bel13 := bel12.trans (hb13.mono bel12.size)
      have HL13 := Lib.hid (Raw.below HL12.out hb13)
      have HR13 := Lib.hid (Raw.below HR12.out hb13)
      have HB13 := Lib.hid (Raw.below HB12.out hb13)
      have HD13 := Lib.hid (Raw.below HD12.out hb13)
      have HT13 := Lib.hid (Raw.below HT12.out hb13)
      clear HL12 HR12 HB12 HD12 HT12
      go_upto_region 13 with (fail)
      obtain ⟨blb, qb1, qb2⟩ := Raw.blocks HB13.out (by omega)
      have Hqb := Lib.hid qb1
      have Hbl : Hid (∀ q ∈ blb, ∃ cc e f, w13.heap[q]? = some (.cells cc e f)) := Lib.hid (fun q hq => (qb2 q hq).2)
      clear qb1 qb2
      have h24 : ((encV X).length : Int) ≤ 24000 := by have := encV_short HV.out; omega
      have hBl := show ∀ q ∈ blb, ∃ cc e f, w13.heap[q]? = some (.cells cc e f) from Hbl.out
      refine Txt.Ty.wp_tree (blb) [12] [] [10, 12] [0, 1, 2, 3, 4, 5, 6, 7, 8, 11, 12] (.alt [9, 10, 13, 14, 15] (.done) (.no)) (by kernel_rfl) (by kernel_rfl) (by kernel_rfl) (by kernel_rfl) hBl ?_
      obtain ⟨w14, hw7⟩ : ∃ y, y = w13.drew := ⟨_, rfl⟩
      have HS14 : Hid (Txt.SameB blb w14 w14) := Lib.hid (by rw [hw7]; exact same_start hBl)
      clear hBl
      rw [← hw7]
      have hd : Below w13.heap.size w13 w14 := by rw [hw7]; exact (Below.refl _ _).drew
      have bel14 := bel13.trans (hd.mono bel13.size)
      have HB14 := Lib.hid (Raw.below HB13.out hd)
      have HD14 := Lib.hid (Raw.below HD13.out hd)
      clear HB13 HD13
      clear hd hw7
      have k1 := run_str HB14.out 23 5 9 Try.underlying23 Try.underlying5 Try.underlying9
      (try simp only [Txt.pick, List.getElem?_cons_succ, List.getElem?_cons_zero])
      go_wp2
      refine Txt.RunPost.mk ?_
      refine Txt.Ty.wpTr_alt ?_ Txt.Ty.wpTr_no
      (try simp only [Txt.pick, List.getElem?_cons_succ, List.getElem?_cons_zero])
      go_wp2_with fail
      refine (encode_any _ X _ (by omega) HD14.out HF.out).mono ?_
      rintro e w15 ⟨vq, rfl, hrq, hb15⟩
      have bel15 := bel14.trans (hb15.mono bel14.size)
      have HB15 := Lib.hid (Raw.below HB14.out hb15)
      have HD15 := Lib.hid (Raw.below HD14.out hb15)
      clear HB14 HD14
      have HS15 := Lib.hid (same_below' HS14.out hb15)
      have k2 := run_str (BRow.bytes (F := []) hrq (fun f hf => by cases hf)) 23 5 9 Try.underlying23 Try.underlying5 Try.underlying9
      have k3 := run_str HB15.out 23 5 9 Try.underlying23 Try.underlying5 Try.underlying9
      obtain ⟨aq, cq, hvq⟩ := own_slice hrq
      subst hvq
      clear hrq hb15 k1
      go_wp2
      refine Txt.SegPost.mk (Txt.Ty.Shown.same HS15.out) ?_
      (try simp only [Txt.pick, List.getElem?_cons_succ, List.getElem?_cons_zero])
      go_wp2
      refine Txt.RunPost.mk ?_
      refine Txt.Ty.wpTr_done (by rfl) ⟨Hqb.out _ (fun q hq => hq), trivial⟩ ?_
      go_wp2
      go_ret
      exact ⟨by simp, bel15⟩
  · have HD1 := Lib.hid h0
    clear h0
    cases b
    · have HD0 : Hid (decL (encV X) = ([], 4)) := Lib.hid (dec_bad HF.out (by omega) HV.out)
      go_wp2_with fail
      refine (few_eq _ X true _ HL1.out HFW.out).mono ?_
      rintro e w' ⟨rfl, rfl⟩
      go_wp2_with fail
      refine (own_any _ X _ (by omega) HL1.out).mono ?_
      rintro e w2 ⟨v2, rfl, hO2, hb2⟩
      have bel2 := bel1.trans (hb2.mono bel1.size)
      have HL2 := Lib.hid (Raw.below HL1.out hb2)
      have HR2 := Lib.hid (Raw.below HR1.out hb2)
      clear HL1 HR1
      go_wp2_with fail
      refine (encode_any _ X _ (by omega) hO2 HF.out).mono ?_
      rintro e w3 ⟨v3, rfl, hr3, hb3⟩
      have bel3 := bel2.trans (hb3.mono bel2.size)
      have HL3 := Lib.hid (Raw.below HL2.out hb3)
      have HR3 := Lib.hid (Raw.below HR2.out hb3)
      clear HL2 HR2
      have HB3 := Lib.hid (BRow.bytes (F := []) hr3 (fun f hf => by cases hf))
      obtain ⟨a3, c3, hv3⟩ := own_slice hr3
      subst hv3
      clear hr3 hO2
      go_wp2_with fail
      refine (decode_any _ (encV X) _ HB3.out (by have := HE.out; omega)).mono ?_
      rw [HD0.out]
      rintro e w4 ⟨v4, rfl, hs4, hb4⟩
      have bel4 := bel3.trans (hb4.mono bel3.size)
      have HL4 := Lib.hid (Raw.below HL3.out hb4)
      have HR4 := Lib.hid (Raw.below HR3.out hb4)
      have HB4 := Lib.hid (Raw.below HB3.out hb4)
      clear HL3 HR3 HB3
      have HD4 := Lib.hid hs4
      obtain ⟨a4, c4, hv4⟩ := Raw.slice hs4
      subst hv4
      clear hs4
      go_wp2_with fail
      refine (decode_any _ raw _ HR4.out (by omega)).mono ?_
      rw [HD1.out]
      rintro e w5 ⟨v5, rfl, hs5, hb5⟩
      have bel5 := bel4.trans (hb5.mono bel4.size)
      have HL5 := Lib.hid (Raw.below HL4.out hb5)
      have HR5 := Lib.hid (Raw.below HR4.out hb5)
      have HB5 := Lib.hid (Raw.below HB4.out hb5)
      have HD5 := Lib.hid (Raw.below HD4.out hb5)
      clear HL4 HR4 HB4 HD4
      have HT5 := Lib.hid hs5
      obtain ⟨a5, c5, hv5⟩ := Raw.slice hs5
      subst hv5
      clear hs5
      go_wp2_with fail
      refine (rdecode_any _ raw _ HR5.out (by omega)).mono ?_
      rw [HD1.out]
      rintro e w6 ⟨v6, rfl, hs6, hb6⟩
      have bel6 := bel5.trans (hb6.mono bel5.size)
      have HL6 := Lib.hid (Raw.below HL5.out hb6)
      have HR6 := Lib.hid (Raw.below HR5.out hb6)
      have HB6 := Lib.hid (Raw.below HB5.out hb6)
      have HD6 := Lib.hid (Raw.below HD5.out hb6)
      have HT6 := Lib.hid (Raw.below HT5.out hb6)
      clear HL5 HR5 HB5 HD5 HT5
      clear hs6
      simp only
      go_upto_region 9 with (fail)
      obtain ⟨blb, qb1, qb2⟩ := Raw.blocks HB6.out (by omega)
      obtain ⟨blr, qr1, qr2⟩ := Raw.blocks HR6.out (by omega)
      have Hqb := Lib.hid qb1
      have Hqr := Lib.hid qr1
      have Hbl : Hid (∀ q ∈ blb ++ blr, ∃ cc e f, w6.heap[q]? = some (.cells cc e f)) := Lib.hid (fun q hq => by
        rcases List.mem_append.1 hq with h | h
        · exact (qb2 q h).2
        · exact (qr2 q h).2)
      clear qb1 qb2 qr1 qr2
      have hBl := show ∀ q ∈ blb ++ blr, ∃ cc e f, w6.heap[q]? = some (.cells cc e f) from Hbl.out
      refine Txt.Ty.wp_tree (blb ++ blr) [1, 27] [] [1, 4, 25, 27] [0, 1, 2] (.alt [3, 4, 5, 6, 7, 10] (.alt [8] (.alt [9] (.alt [11, 12, 13, 14, 15, 16, 17, 18, 19, 20, 21, 22, 23, 26, 27] (.alt [24, 25, 28, 29, 30] (.done) (.no)) (.no)) (.no)) (.no)) (.no)) (by kernel_rfl) (by kernel_rfl) (by kernel_rfl) (by kernel_rfl) hBl ?_
      obtain ⟨w7, hw7⟩ : ∃ y, y = w6.drew := ⟨_, rfl⟩
      have HS7 : Hid (Txt.SameB (blb ++ blr) w7 w7) := Lib.hid (by rw [hw7]; exact same_start hBl)
      clear hBl
      rw [← hw7]
      have hd : Below w6.heap.size w6 w7 := by rw [hw7]; exact (Below.refl _ _).drew
      have bel7 := bel6.trans (hd.mono bel6.size)
      have HL7 := Lib.hid (Raw.below HL6.out hd)
      have HR7 := Lib.hid (Raw.below HR6.out hd)
      have HB7 := Lib.hid (Raw.below HB6.out hd)
      have HD7 := Lib.hid (Raw.below HD6.out hd)
      have HT7 := Lib.hid (Raw.below HT6.out hd)
      clear HL6 HR6 HB6 HD6 HT6
      clear hd hw7
      have k1 := run_str HB7.out 23 5 9 Try.underlying23 Try.underlying5 Try.underlying9
      (try simp only [Txt.pick, List.getElem?_cons_succ, List.getElem?_cons_zero])
      go_wp2
      refine Txt.RunPost.mk ?_
      refine Txt.Ty.wpTr_alt ?_ Txt.Ty.wpTr_no
      (try simp only [Txt.pick, List.getElem?_cons_succ, List.getElem?_cons_zero])
      go_wp2_with fail
      refine (rencode_any _ X _ (by omega) HL7.out HF.out).mono ?_
      rintro e w8 ⟨v8, rfl, hr8, hb8⟩
      have bel8 := bel7.trans (hb8.mono bel7.size)
      have HL8 := Lib.hid (Raw.below HL7.out hb8)
      have HR8 := Lib.hid (Raw.below HR7.out hb8)
      have HB8 := Lib.hid (Raw.below HB7.out hb8)
      have HD8 := Lib.hid (Raw.below HD7.out hb8)
      have HT8 := Lib.hid (Raw.below HT7.out hb8)
      clear HL7 HR7 HB7 HD7 HT7
      have HS8 := Lib.hid (same_below' HS7.out hb8)
      have k2 := run_str (BRow.bytes (F := []) hr8 (fun f hf => by cases hf)) 23 5 9 Try.underlying23 Try.underlying5 Try.underlying9
      obtain ⟨a8, c8, hv8⟩ := own_slice hr8
      subst hv8
      clear hr8 hb8 k1
      go_wp2
      refine Txt.SegPost.mk (Txt.Ty.Shown.same HS8.out) ?_
      (try simp only [Txt.pick, List.getElem?_cons_succ, List.getElem?_cons_zero])
      go_wp2
      refine Txt.RunPost.mk ?_
      refine Txt.Ty.wpTr_alt ?_ Txt.Ty.wpTr_no
      (try simp only [Txt.pick, List.getElem?_cons_succ, List.getElem?_cons_zero])
      clear k2
      go_wp2_with fail
      refine (own_any _ X _ (by omega) HL8.out).mono ?_
      rintro e w9 ⟨v9, rfl, hO9, hb9⟩
      have bel9 := bel8.trans (hb9.mono bel8.size)
      have HL9 := Lib.hid (Raw.below HL8.out hb9)
      have HR9 := Lib.hid (Raw.below HR8.out hb9)
      have HB9 := Lib.hid (Raw.below HB8.out hb9)
      have HD9 := Lib.hid (Raw.below HD8.out hb9)
      have HT9 := Lib.hid (Raw.below HT8.out hb9)
      clear HL8 HR8 HB8 HD8 HT8
      have HS9 := Lib.hid (same_below' HS8.out hb9)
      go_wp2
      refine Txt.SegPost.mk (Txt.Ty.Shown.same HS9.out) ?_
      (try simp only [Txt.pick, List.getElem?_cons_succ, List.getElem?_cons_zero])
      go_wp2
      refine Txt.RunPost.mk ?_
      refine Txt.Ty.wpTr_alt ?_ Txt.Ty.wpTr_no
      (try simp only [Txt.pick, List.getElem?_cons_succ, List.getElem?_cons_zero])
      go_wp2_with fail
      refine (valid_any _ X _ (by omega) hO9).mono ?_
      rw [HV.out]
      rintro e w10 ⟨rfl, hb10⟩
      have bel10 := bel9.trans (hb10.mono bel9.size)
      have HL10 := Lib.hid (Raw.below HL9.out hb10)
      have HR10 := Lib.hid (Raw.below HR9.out hb10)
      have HB10 := Lib.hid (Raw.below HB9.out hb10)
      have HD10 := Lib.hid (Raw.below HD9.out hb10)
      have HT10 := Lib.hid (Raw.below HT9.out hb10)
      clear HL9 HR9 HB9 HD9 HT9
      have HS10 := Lib.hid (same_below' HS9.out hb10)
      clear hO9
      go_wp2
      refine Txt.SegPost.mk (Txt.Ty.Shown.same HS10.out) ?_
      (try simp only [Txt.pick, List.getElem?_cons_succ, List.getElem?_cons_zero])
      go_wp2
      refine Txt.RunPost.mk ?_
      refine Txt.Ty.wpTr_alt ?_ Txt.Ty.wpTr_no
      (try simp only [Txt.pick, List.getElem?_cons_succ, List.getElem?_cons_zero])
      go_wp2_with fail
      refine (rvalid_any _ X _ (by omega) (fun x hx => by have := (HF.out x hx).1; omega) HL10.out).mono ?_
      rw [HV.out]
      rintro e w11 ⟨rfl, hb11⟩
      have bel11 := bel10.trans (hb11.mono bel10.size)
      have HL11 := Lib.hid (Raw.below HL10.out hb11)
      have HR11 := Lib.hid (Raw.below HR10.out hb11)
      have HB11 := Lib.hid (Raw.below HB10.out hb11)
      have HD11 := Lib.hid (Raw.below HD10.out hb11)
      have HT11 := Lib.hid (Raw.below HT10.out hb11)
      clear HL10 HR10 HB10 HD10 HT10
      have HS11 := Lib.hid (same_below' HS10.out hb11)
      have k3 := run_str HR11.out 23 5 9 Try.underlying23 Try.underlying5 Try.underlying9
      go_wp2
      refine Txt.SegPost.mk (Txt.Ty.Shown.same HS11.out) ?_
      (try simp only [Txt.pick, List.getElem?_cons_succ, List.getElem?_cons_zero])
      go_wp2
      refine Txt.RunPost.mk ?_
      refine Txt.Ty.wpTr_alt ?_ Txt.Ty.wpTr_no
      (try simp only [Txt.pick, List.getElem?_cons_succ, List.getElem?_cons_zero])

      go_wp2
      refine Txt.SegPost.mk (Txt.Ty.Shown.same HS11.out) ?_
      (try simp only [Txt.pick, List.getElem?_cons_succ, List.getElem?_cons_zero])
      go_wp2
      refine Txt.RunPost.mk ?_
      refine Txt.Ty.wpTr_done (by rfl) ⟨Hqb.out _ (fun q hq => List.mem_append_left _ hq), trivial, trivial⟩ ?_
      clear Hqb Hqr Hbl
      go_wp2_with fail
      refine (rvalid_any _ X _ (by omega) (fun x hx => by have := (HF.out x hx).1; omega) HL11.out).mono ?_
      rw [HV.out]
      rintro e w12 ⟨rfl, hb12⟩
      have bel12 := bel11.trans (hb12.mono bel11.size)
      have HL12 := Lib.hid (Raw.below HL11.out hb12)
      have HR12 := Lib.hid (Raw.below HR11.out hb12)
      have HB12 := Lib.hid (Raw.below HB11.out hb12)
      have HD12 := Lib.hid (Raw.below HD11.out hb12)
      have HT12 := Lib.hid (Raw.below HT11.out hb12)
      clear HL11 HR11 HB11 HD11 HT11
      go_wp2
      go_ret
      exact ⟨by simp, bel12⟩
    · have HD0 : Hid (decL (encV X) = (X, 0)) := Lib.hid (decL_enc HV.out)
      go_wp2_with fail
      refine (few_eq _ X true _ HL1.out HFW.out).mono ?_
      rintro e w' ⟨rfl, rfl⟩
      go_wp2_with fail
      refine (own_any _ X _ (by omega) HL1.out).mono ?_
      rintro e w2 ⟨v2, rfl, hO2, hb2⟩
      have bel2 := bel1.trans (hb2.mono bel1.size)
      have HL2 := Lib.hid (Raw.below HL1.out hb2)
      have HR2 := Lib.hid (Raw.below HR1.out hb2)
      clear HL1 HR1
      go_wp2_with fail
      refine (encode_any _ X _ (by omega) hO2 HF.out).mono ?_
      rintro e w3 ⟨v3, rfl, hr3, hb3⟩
      have bel3 := bel2.trans (hb3.mono bel2.size)
      have HL3 := Lib.hid (Raw.below HL2.out hb3)
      have HR3 := Lib.hid (Raw.below HR2.out hb3)
      clear HL2 HR2
      have HB3 := Lib.hid (BRow.bytes (F := []) hr3 (fun f hf => by cases hf))
      obtain ⟨a3, c3, hv3⟩ := own_slice hr3
      subst hv3
      clear hr3 hO2
      go_wp2_with fail
      refine (decode_any _ (encV X) _ HB3.out (by have := HE.out; omega)).mono ?_
      rw [HD0.out]
      rintro e w4 ⟨v4, rfl, hs4, hb4⟩
      have bel4 := bel3.trans (hb4.mono bel3.size)
      have HL4 := Lib.hid (Raw.below HL3.out hb4)
      have HR4 := Lib.hid (Raw.below HR3.out hb4)
      have HB4 := Lib.hid (Raw.below HB3.out hb4)
      clear HL3 HR3 HB3
      have HD4 := Lib.hid hs4
      obtain ⟨a4, c4, hv4⟩ := Raw.slice hs4
      subst hv4
      clear hs4
      go_wp2_with fail
      refine (decode_any _ raw _ HR4.out (by omega)).mono ?_
      rw [HD1.out]
      rintro e w5 ⟨v5, rfl, hs5, hb5⟩
      have bel5 := bel4.trans (hb5.mono bel4.size)
      have HL5 := Lib.hid (Raw.below HL4.out hb5)
      have HR5 := Lib.hid (Raw.below HR4.out hb5)
      have HB5 := Lib.hid (Raw.below HB4.out hb5)
      have HD5 := Lib.hid (Raw.below HD4.out hb5)
      clear HL4 HR4 HB4 HD4
      have HT5 := Lib.hid hs5
      obtain ⟨a5, c5, hv5⟩ := Raw.slice hs5
      subst hv5
      clear hs5
      go_wp2_with fail
      refine (rdecode_any _ raw _ HR5.out (by omega)).mono ?_
      rw [HD1.out]
      rintro e w6 ⟨v6, rfl, hs6, hb6⟩
      have bel6 := bel5.trans (hb6.mono bel5.size)
      have HL6 := Lib.hid (Raw.below HL5.out hb6)
      have HR6 := Lib.hid (Raw.below HR5.out hb6)
      have HB6 := Lib.hid (Raw.below HB5.out hb6)
      have HD6 := Lib.hid (Raw.below HD5.out hb6)
      have HT6 := Lib.hid (Raw.below HT5.out hb6)
      clear HL5 HR5 HB5 HD5 HT5
      clear hs6
      simp only
      go_upto_region 9 with (fail)
      obtain ⟨blb, qb1, qb2⟩ := Raw.blocks HB6.out (by omega)
      obtain ⟨blr, qr1, qr2⟩ := Raw.blocks HR6.out (by omega)
      have Hqb := Lib.hid qb1
      have Hqr := Lib.hid qr1
      have Hbl : Hid (∀ q ∈ blb ++ blr, ∃ cc e f, w6.heap[q]? = some (.cells cc e f)) := Lib.hid (fun q hq => by
        rcases List.mem_append.1 hq with h | h
        · exact (qb2 q h).2
        · exact (qr2 q h).2)
      clear qb1 qb2 qr1 qr2
      have hBl := show ∀ q ∈ blb ++ blr, ∃ cc e f, w6.heap[q]? = some (.cells cc e f) from Hbl.out
      refine Txt.Ty.wp_tree (blb ++ blr) [1, 27] [] [1, 4, 25, 27] [0, 1, 2] (.alt [3, 4, 5, 6, 7, 10] (.alt [8] (.alt [9] (.alt [11, 12, 13, 14, 15, 16, 17, 18, 19, 20, 21, 22, 23, 26, 27] (.alt [24, 25, 28, 29, 30] (.done) (.no)) (.no)) (.no)) (.no)) (.no)) (by kernel_rfl) (by kernel_rfl) (by kernel_rfl) (by kernel_rfl) hBl ?_
      obtain ⟨w7, hw7⟩ : ∃ y, y = w6.drew := ⟨_, rfl⟩
      have HS7 : Hid (Txt.SameB (blb ++ blr) w7 w7) := Lib.hid (by rw [hw7]; exact same_start hBl)
      clear hBl
      rw [← hw7]
      have hd : Below w6.heap.size w6 w7 := by rw [hw7]; exact (Below.refl _ _).drew
      have bel7 := bel6.trans (hd.mono bel6.size)
      have HL7 := Lib.hid (Raw.below HL6.out hd)
      have HR7 := Lib.hid (Raw.below HR6.out hd)
      have HB7 := Lib.hid (Raw.below HB6.out hd)
      have HD7 := Lib.hid (Raw.below HD6.out hd)
      have HT7 := Lib.hid (Raw.below HT6.out hd)
      clear HL6 HR6 HB6 HD6 HT6
      clear hd hw7
      have k1 := run_str HB7.out 23 5 9 Try.underlying23 Try.underlying5 Try.underlying9
      (try simp only [Txt.pick, List.getElem?_cons_succ, List.getElem?_cons_zero])
      go_wp2
      refine Txt.RunPost.mk ?_
      refine Txt.Ty.wpTr_alt ?_ Txt.Ty.wpTr_no
      (try simp only [Txt.pick, List.getElem?_cons_succ, List.getElem?_cons_zero])
      go_wp2_with fail
      refine (rencode_any _ X _ (by omega) HL7.out HF.out).mono ?_
      rintro e w8 ⟨v8, rfl, hr8, hb8⟩
      have bel8 := bel7.trans (hb8.mono bel7.size)
      have HL8 := Lib.hid (Raw.below HL7.out hb8)
      have HR8 := Lib.hid (Raw.below HR7.out hb8)
      have HB8 := Lib.hid (Raw.below HB7.out hb8)
      have HD8 := Lib.hid (Raw.below HD7.out hb8)
      have HT8 := Lib.hid (Raw.below HT7.out hb8)
      clear HL7 HR7 HB7 HD7 HT7
      have HS8 := Lib.hid (same_below' HS7.out hb8)
      have k2 := run_str (BRow.bytes (F := []) hr8 (fun f hf => by cases hf)) 23 5 9 Try.underlying23 Try.underlying5 Try.underlying9
      obtain ⟨a8, c8, hv8⟩ := own_slice hr8
      subst hv8
      clear hr8 hb8 k1
      go_wp2
      refine Txt.SegPost.mk (Txt.Ty.Shown.same HS8.out) ?_
      (try simp only [Txt.pick, List.getElem?_cons_succ, List.getElem?_cons_zero])
      go_wp2
      refine Txt.RunPost.mk ?_
      refine Txt.Ty.wpTr_alt ?_ Txt.Ty.wpTr_no
      (try simp only [Txt.pick, List.getElem?_cons_succ, List.getElem?_cons_zero])
      clear k2
      go_wp2_with fail
      refine (own_any _ X _ (by omega) HL8.out).mono ?_
      rintro e w9 ⟨v9, rfl, hO9, hb9⟩
      have bel9 := bel8.trans (hb9.mono bel8.size)
      have HL9 := Lib.hid (Raw.below HL8.out hb9)
      have HR9 := Lib.hid (Raw.below HR8.out hb9)
      have HB9 := Lib.hid (Raw.below HB8.out hb9)
      have HD9 := Lib.hid (Raw.below HD8.out hb9)
      have HT9 := Lib.hid (Raw.below HT8.out hb9)
      clear HL8 HR8 HB8 HD8 HT8
      have HS9 := Lib.hid (same_below' HS8.out hb9)
      go_wp2
      refine Txt.SegPost.mk (Txt.Ty.Shown.same HS9.out) ?_
      (try simp only [Txt.pick, List.getElem?_cons_succ, List.getElem?_cons_zero])
      go_wp2
      refine Txt.RunPost.mk ?_
      refine Txt.Ty.wpTr_alt ?_ Txt.Ty.wpTr_no
      (try simp only [Txt.pick, List.getElem?_cons_succ, List.getElem?_cons_zero])
      go_wp2_with fail
      refine (valid_any _ X _ (by omega) hO9).mono ?_
      rw [HV.out]
      rintro e w10 ⟨rfl, hb10⟩
      have bel10 := bel9.trans (hb10.mono bel9.size)
      have HL10 := Lib.hid (Raw.below HL9.out hb10)
      have HR10 := Lib.hid (Raw.below HR9.out hb10)
      have HB10 := Lib.hid (Raw.below HB9.out hb10)
      have HD10 := Lib.hid (Raw.below HD9.out hb10)
      have HT10 := Lib.hid (Raw.below HT9.out hb10)
      clear HL9 HR9 HB9 HD9 HT9
      have HS10 := Lib.hid (same_below' HS9.out hb10)
      clear hO9
      go_wp2
      refine Txt.SegPost.mk (Txt.Ty.Shown.same HS10.out) ?_
      (try simp only [Txt.pick, List.getElem?_cons_succ, List.getElem?_cons_zero])
      go_wp2
      refine Txt.RunPost.mk ?_
      refine Txt.Ty.wpTr_alt ?_ Txt.Ty.wpTr_no
      (try simp only [Txt.pick, List.getElem?_cons_succ, List.getElem?_cons_zero])
      go_wp2_with fail
      refine (rvalid_any _ X _ (by omega) (fun x hx => by have := (HF.out x hx).1; omega) HL10.out).mono ?_
      rw [HV.out]
      rintro e w11 ⟨rfl, hb11⟩
      have bel11 := bel10.trans (hb11.mono bel10.size)
      have HL11 := Lib.hid (Raw.below HL10.out hb11)
      have HR11 := Lib.hid (Raw.below HR10.out hb11)
      have HB11 := Lib.hid (Raw.below HB10.out hb11)
      have HD11 := Lib.hid (Raw.below HD10.out hb11)
      have HT11 := Lib.hid (Raw.below HT10.out hb11)
      clear HL10 HR10 HB10 HD10 HT10
      have HS11 := Lib.hid (same_below' HS10.out hb11)
      have k3 := run_str HR11.out 23 5 9 Try.underlying23 Try.underlying5 Try.underlying9
      go_wp2
      refine Txt.SegPost.mk (Txt.Ty.Shown.same HS11.out) ?_
      (try simp only [Txt.pick, List.getElem?_cons_succ, List.getElem?_cons_zero])
      go_wp2
      refine Txt.RunPost.mk ?_
      refine Txt.Ty.wpTr_alt ?_ Txt.Ty.wpTr_no
      (try simp only [Txt.pick, List.getElem?_cons_succ, List.getElem?_cons_zero])

      go_wp2
      refine Txt.SegPost.mk (Txt.Ty.Shown.same HS11.out) ?_
      (try simp only [Txt.pick, List.getElem?_cons_succ, List.getElem?_cons_zero])
      go_wp2
      refine Txt.RunPost.mk ?_
      refine Txt.Ty.wpTr_done (by rfl) ⟨Hqb.out _ (fun q hq => List.mem_append_left _ hq), trivial, trivial⟩ ?_
      clear Hqb Hqr Hbl
      go_wp2_with fail
      refine (rvalid_any _ X _ (by omega) (fun x hx => by have := (HF.out x hx).1; omega) HL11.out).mono ?_
      rw [HV.out]
      rintro e w12 ⟨rfl, hb12⟩
      have bel12 := bel11.trans (hb12.mono bel11.size)
      have HL12 := Lib.hid (Raw.below HL11.out hb12)
      have HR12 := Lib.hid (Raw.below HR11.out hb12)
      have HB12 := Lib.hid (Raw.below HB11.out hb12)
      have HD12 := Lib.hid (Raw.below HD11.out hb12)
      have HT12 := Lib.hid (Raw.below HT11.out hb12)
      clear HL11 HR11 HB11 HD11 HT11
      go_upto_region 13 with (fail)
      obtain ⟨blb, qb1, qb2⟩ := Raw.blocks HB12.out (by omega)
      have Hqb := Lib.hid qb1
      have Hbl : Hid (∀ q ∈ blb, ∃ cc e f, w12.heap[q]? = some (.cells cc e f)) := Lib.hid (fun q hq => (qb2 q hq).2)
      clear qb1 qb2
      have h24 : ((encV X).length : Int) ≤ 24000 := by have := encV_short HV.out; omega
      have hBl := show ∀ q ∈ blb, ∃ cc e f, w12.heap[q]? = some (.cells cc e f) from Hbl.out
      refine Txt.Ty.wp_tree (blb) [12] [] [10, 12] [0, 1, 2, 3, 4, 5, 6, 7, 8, 11, 12] (.alt [9, 10, 13, 14, 15] (.done) (.no)) (by kernel_rfl) (by kernel_rfl) (by kernel_rfl) (by kernel_rfl) hBl ?_
      obtain ⟨w13, hw7⟩ : ∃ y, y = w12.drew := ⟨_, rfl⟩
      have HS13 : Hid (Txt.SameB blb w13 w13) := Lib.hid (by rw [hw7]; exact same_start hBl)
      clear hBl
      rw [← hw7]
      have hd : Below w12.heap.size w12 w13 := by rw [hw7]; exact (Below.refl _ _).drew
      have bel13 := bel12.trans (hd.mono bel12.size)
      have HB13 := Lib.hid (Raw.below HB12.out hd)
      have HD13 := Lib.hid (Raw.below HD12.out hd)
      clear HB12 HD12
      clear hd hw7
      have k1 := run_str HB13.out 23 5 9 Try.underlying23 Try.underlying5 Try.underlying9
      (try simp only [Txt.pick, List.getElem?_cons_succ, List.getElem?_cons_zero])
      go_wp2
      refine Txt.RunPost.mk ?_
      refine Txt.Ty.wpTr_alt ?_ Txt.Ty.wpTr_no
      (try simp only [Txt.pick, List.getElem?_cons_succ, List.getElem?_cons_zero])
      go_wp2_with fail
      refine (encode_any _ X _ (by omega) HD13.out HF.out).mono ?_
      rintro e w14 ⟨vq, rfl, hrq, hb14⟩
      have bel14 := bel13.trans (hb14.mono bel13.size)
      have HB14 := Lib.hid (Raw.below HB13.out hb14)
      have HD14 := Lib.hid (Raw.below HD13.out hb14)
      clear HB13 HD13
      have HS14 := Lib.hid (same_below' HS13.out hb14)
      have k2 := run_str (BRow.bytes (F := []) hrq (fun f hf => by cases hf)) 23 5 9 Try.underlying23 Try.underlying5 Try.underlying9
      have k3 := run_str HB14.out 23 5 9 Try.underlying23 Try.underlying5 Try.underlying9
      obtain ⟨aq, cq, hvq⟩ := own_slice hrq
      subst hvq
      clear hrq hb14 k1
      go_wp2
      refine Txt.SegPost.mk (Txt.Ty.Shown.same HS14.out) ?_
      (try simp only [Txt.pick, List.getElem?_cons_succ, List.getElem?_cons_zero])
      go_wp2
      refine Txt.RunPost.mk ?_
      refine Txt.Ty.wpTr_done (by rfl) ⟨Hqb.out _ (fun q hq => hq), trivial⟩ ?_
      go_wp2
      go_ret
      exact ⟨by simp, bel14⟩
end Go.Proofs.Ytfgbkfifiioeiaa
