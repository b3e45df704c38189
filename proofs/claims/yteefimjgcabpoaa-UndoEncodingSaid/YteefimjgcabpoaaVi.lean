/- Undo: the walk of UndoEncoding -/
import Derived.Test.YteefimjgcabpoaaVh
import Derived.Test.YteefimjgcabpoaaTw
namespace Go.Proofs.Yteefimjgcabpoaa
open Go.RowKit Go.Bs Go.Cl Go.Rw Go.Un Go.Wi
set_option maxRecDepth 100000 in
set_option maxHeartbeats 4000000 in
theorem undoEnc_any (rv bv : Value) (rs : List (Rec × Value)) (b : List UInt8) (w : World) (hR : Recs [] w rv rs) (hf : ∀ q ∈ rs, q.1.fits) (hB : Bytes [] w bv b) :
    Calls Try.prog 8 #[rv, bv] w fun e w' => e = .returned (.bool true) ∧ Below w.heap.size w w' := by
  obtain ⟨ra, rc, rfl⟩ := Raw.slice hR.1
  obtain ⟨ba, bc, rfl⟩ := Raw.slice hB
  have hlm : rs.length ≤ 9223372036854775807 := by
    rcases Raw.cases hR.1 with ⟨h, _⟩ | ⟨_, _, _, cap, hv, h1, h2, _⟩
    · omega
    · unfold maxLen at h2; omega
  have HR := Lib.hid hR; clear hR
  have HB := Lib.hid hB; clear hB
  have HF := Lib.hid hf; clear hf
  cases hfew : fewB (rs.map (·.1))
  · go_enter Try.func8, Try.ntmps8
    go_wp2_with fail
    refine (awake_any _).mono ?_
    rintro e w1 ⟨rfl, hb1⟩
    go_wp2_with fail
    refine (few_any _ rs _ hlm (HR.out.below hb1)).mono ?_
    rw [hfew]
    rintro e w2 ⟨rfl, rfl⟩
    go_wp2
    go_ret
    exact ⟨rfl, hb1⟩
  by_cases h2k : 2000 < b.length
  · have g1 : (2000 : Int) < b.length := by omega
    go_enter Try.func8, Try.ntmps8
    go_wp2_with fail
    refine (awake_any _).mono ?_
    rintro e w1 ⟨rfl, hb1⟩
    go_wp2_with fail
    refine (few_any _ rs _ hlm (HR.out.below hb1)).mono ?_
    rw [hfew]
    rintro e w2 ⟨rfl, rfl⟩
    go_wp2
    go_ret
    exact ⟨rfl, hb1⟩
  have g1 : (b.length : Int) ≤ 2000 := by omega
  have hbl : b.length ≤ 500000 := by omega
  have hfew' := hfew
  unfold fewB at hfew'
  rw [Bool.and_eq_true, List.all_eq_true] at hfew'
  obtain ⟨hall, hl30⟩ := hfew'
  have hl30 : rs.length ≤ 30 := by simpa using hl30
  have hfo : ∀ x ∈ rs.map (·.1), x.fits ∧ x.old.length ≤ 400 := fun x hx => by
    have h := hall x hx
    obtain ⟨p, hp, rfl⟩ := List.mem_map.1 hx
    simp at h
    exact ⟨HF.out p hp, h.1⟩
  have hl100 : (rs.map (·.1)).length ≤ 100 := by simp; omega
  have hl6 : rs.length ≤ 1000000 := by omega
  have hl1 : rs.length ≤ 100 := by omega
  have hV := decR_enc hl100 hfo
  have hVl := encRs_len hl100 hfo
  obtain ⟨V, hVd⟩ : ∃ V, encRs (rs.map (·.1)) = V := ⟨_, rfl⟩
  rw [hVd] at hV hVl
  have hDs := decR_small b
  obtain ⟨D, hD⟩ : ∃ D, decR b = D := ⟨_, rfl⟩
  rw [hD] at hDs
  obtain ⟨D, ex⟩ := D
  simp only at hDs
  have HDs := Lib.hid hDs
  have HD := Lib.hid hD; have HV := Lib.hid hV; have HVd := Lib.hid hVd; have HVl := Lib.hid hVl
  have hto : ∀ ts : List (Rec × Value), ts.map (·.1) = rs.map (·.1) → (∀ p ∈ ts, p.1.fits ∧ p.1.old.length ≤ 400) ∧ ts.length = rs.length := fun ts h =>
    ⟨fun p hp => hfo p.1 (by rw [← h]; exact List.mem_map.2 ⟨p, hp, rfl⟩), by have := congrArg List.length h; simpa using this⟩
  have hself := (hto rs rfl).1
  have hold6 : ∀ p ∈ rs, p.1.old.length ≤ 1000000 := fun p hp => by have := (hself p hp).2; omega
  have Hto := Lib.hid hto; have Hself := Lib.hid hself; have Hold6 := Lib.hid hold6
  clear hV hVd hVl hD hDs hfo hall hto hself hold6 hl100
  go_enter Try.func8, Try.ntmps8
  go_wp2_with fail
  refine (awake_any _).mono ?_
  rintro e w1 ⟨rfl, hb1⟩
  go_wp2_with fail
  refine (few_any _ rs _ hlm (HR.out.below hb1)).mono ?_
  rw [hfew]
  rintro e w1' ⟨rfl, rfl⟩
  go_wp2_with fail
  refine (decode_any _ b _ (Raw.below HB.out hb1) hbl).mono ?_
  rw [HD.out]
  rintro e w2 ⟨v2, X, rfl, hx2, hX, hb2⟩
  simp only at hX
  have hbel2 := hb1.trans (hb2.mono hb1.size)
  obtain ⟨xa, xc, rfl⟩ := Raw.slice hx2.1
  have HX2 := Lib.hid hx2
  have HXm := Lib.hid hX
  clear hb1 hb2 hx2 hX
  go_wp2_with fail
  refine (rdecode_any _ b _ (Raw.below HB.out hbel2) hbl).mono ?_
  rw [HD.out]
  rintro e w3 ⟨v3, Y, rfl, hx3, hY, hb3⟩
  simp only at hY
  have hbel3 := hbel2.trans (hb3.mono hbel2.size)
  obtain ⟨ya, yc, rfl⟩ := Raw.slice hx3.1
  have HY3 := Lib.hid hx3
  have HYm := Lib.hid hY
  have HX3 := Lib.hid (HX2.out.below hb3)
  clear hb3 hx3 hY
  go_wp2_with fail
  refine (to_any _ rs _ hl6 (HR.out.below hbel3) Hold6.out).mono ?_
  rintro e w4 ⟨v4, rfl, ho4, hb4⟩
  obtain ⟨ts, hts, hT4⟩ := ho4.recs
  obtain ⟨hts1, hts2⟩ := Hto.out ts hts
  have hbel4 := hbel3.trans (hb4.mono hbel3.size)
  obtain ⟨a4, c4, rfl⟩ := Raw.slice hT4.1
  have HT4 := Lib.hid hT4
  have HX4 := Lib.hid (HX3.out.below hb4)
  have HY4 := Lib.hid (HY3.out.below hb4)
  have Hts1 := Lib.hid hts1; have Hts := Lib.hid hts
  have hlts : ts.length ≤ 100 := by omega
  clear hb4 ho4 hT4 hts hts1 hts2
  go_wp2_with fail
  refine (encode_any _ ts _ hlts HT4.out Hts1.out).mono ?_
  rw [Hts.out, HVd.out]
  rintro e w5 ⟨v5, rfl, hr5, hb5⟩
  have hbel5 := hbel4.trans (hb5.mono hbel4.size)
  obtain ⟨a5, c5, rfl⟩ := own_slice hr5
  have HS5 := Lib.hid (BRow.bytes (F := []) hr5 (fun f hf => by cases hf))
  have HX5 := Lib.hid (HX4.out.below hb5)
  have HY5 := Lib.hid (HY4.out.below hb5)
  clear hb5 hr5
  go_wp2_with fail
  refine (decode_any _ V _ HS5.out (by have := HVl.out; omega)).mono ?_
  rw [HV.out]
  rintro e w6 ⟨v6, Z, rfl, hx6, hZ, hb6⟩
  simp only at hZ
  have hbel6 := hbel5.trans (hb6.mono hbel5.size)
  obtain ⟨za, zc, rfl⟩ := Raw.slice hx6.1
  have HZm := Lib.hid hZ
  have hbun : Bun w (.slice ra rs.length rc) (.slice xa X.length xc) (.slice ya Y.length yc) (.slice za Z.length zc) rs X Y Z w6.drew :=
    Bun.next (u := w6) ⟨hbel6, HR.out.below hbel6, HX5.out.below hb6, HY5.out.below hb6, hx6⟩ ((Below.refl _ w6).drew)
  have hX6 : X.length ≤ 1000000 ∧ ∀ p ∈ X, p.1.old.length ≤ 1000000 := ⟨by
    have h1 := congrArg List.length HXm.out
    have h2 := HDs.out.1
    simp only [List.length_map] at h1
    omega, fun p hp => by
    have := HDs.out.2 p.1 (by rw [← HXm.out]; exact List.mem_map.2 ⟨p, hp, rfl⟩)
    omega⟩
  obtain ⟨hz1, hz2⟩ := Hto.out Z hZ
  have hZ6 : Z.length ≤ 1000000 ∧ ∀ p ∈ Z, p.1.old.length ≤ 1000000 := ⟨by omega, fun p hp => by have := (hz1 p hp).2; omega⟩
  have HX6 := Lib.hid hX6; have HZ6 := Lib.hid hZ6
  have HBu := Lib.hid hbun
  clear hb6 hx6 hZ hbun hz1 hz2 hX6 hZ6 hbel2 hbel3 hbel4 hbel5 hbel6
  go_wp2
  refine Txt.wp_tree [0, 4] (.alt [1] (.alt [2] (.alt [3] (.alt [5] (.alt [6, 7, 8, 9, 10, 11, 12, 13, 14, 16] (.alt [15] (.alt [17, 18, 19, 20, 21, 22, 23, 24, 26] (.alt [25] (.alt [27, 28, 29] (.done) (.no)) (.no)) (.no)) (.no)) (.no)) (.no)) (.alt [5] (.alt [3] (.alt [6, 7, 8, 9, 10, 11, 12, 13, 14, 16] (.alt [15] (.alt [17, 18, 19, 20, 21, 22, 23, 24, 26] (.alt [25] (.alt [27, 28, 29] (.done) (.no)) (.no)) (.no)) (.no)) (.no)) (.alt [6] (.alt [3, 7, 8, 9, 10, 11, 12, 13, 14, 16] (.alt [15] (.alt [17, 18, 19, 20, 21, 22, 23, 24, 26] (.alt [25] (.alt [27, 28, 29] (.done) (.no)) (.no)) (.no)) (.no)) (.no)) (.no))) (.no))) (.no)) (.no)) (by kernel_rfl) (by kernel_rfl) (by kernel_rfl) (by kernel_rfl) ?_
  simp only [Txt.pick, List.getElem?_cons_succ, List.getElem?_cons_zero]
  go_wp2
  refine Txt.RunPost.mk ?_
  obtain ⟨u0, hu0⟩ : ∃ u, u = w6.drew := ⟨_, rfl⟩
  rw [← hu0] at HBu ⊢
  have HBu0 := HBu
  clear hu0
  refine Txt.wpTr_alt ?_ ?_
  · simp only [Txt.pick, List.getElem?_cons_succ, List.getElem?_cons_zero]
    go_wp2_with fail
    refine (to_any _ rs _ hl6 HBu0.out.r Hold6.out).mono ?_
    rintro e u1 ⟨xv, rfl, ho, hb⟩
    have HBu1 := Lib.hid (HBu0.out.next hb)
    obtain ⟨tu1, ht, hT⟩ := ho.recs
    obtain ⟨ht1, ht2⟩ := Hto.out tu1 ht
    obtain ⟨atu1, ctu1, rfl⟩ := Raw.slice hT.1
    have HTu1 := Lib.hid hT; have Ht1u1 := Lib.hid ht1; have Htu1 := Lib.hid ht
    have hlu1 : tu1.length ≤ 100 := by omega
    clear hb ho hT ht ht1 ht2
    go_wp2
    refine Txt.RunPost.mk ?_
    refine Txt.wpTr_alt ?_ ?_
    · simp only [Txt.pick, List.getElem?_cons_succ, List.getElem?_cons_zero]
      go_wp2_with fail
      refine (encode_any _ tu1 _ hlu1 HTu1.out Ht1u1.out).mono ?_
      rw [Htu1.out, HVd.out]
      rintro e u2 ⟨xv, rfl, hr, hb⟩
      have HBu2 := Lib.hid (HBu1.out.next hb)
      obtain ⟨asu2, csu2, rfl⟩ := own_slice hr
      have HSu2 := Lib.hid (BRow.bytes (F := []) hr (fun f hf => by cases hf))
      clear hb hr
      go_wp2
      refine Txt.RunPost.mk ?_
      refine Txt.wpTr_alt ?_ ?_
      · simp only [Txt.pick, List.getElem?_cons_succ, List.getElem?_cons_zero]
        have k1 := run_str HSu2.out 22 5 9 Try.underlying22 Try.underlying5 Try.underlying9
        go_wp2
        refine Txt.RunPost.mk ?_
        refine Txt.wpTr_alt ?_ ?_
        · simp only [Txt.pick, List.getElem?_cons_succ, List.getElem?_cons_zero]
          go_wp2_with fail
          refine (rencode_any _ rs _ hl1 HBu2.out.r Hself.out).mono ?_
          rw [HVd.out]
          rintro e u3 ⟨xv, rfl, hr, hb⟩
          have HBu3 := Lib.hid (HBu2.out.next hb)
          obtain ⟨aru3, cru3, rfl⟩ := own_slice hr
          have HSu3 := Lib.hid (Raw.below HSu2.out hb)
          have HRu3 := Lib.hid (BRow.bytes (F := []) hr (fun f hf => by cases hf))
          clear hb hr
          go_wp2
          refine Txt.RunPost.mk ?_
          refine Txt.wpTr_alt ?_ ?_
          · simp only [Txt.pick, List.getElem?_cons_succ, List.getElem?_cons_zero]
            have k2 := run_str HRu3.out 22 5 9 Try.underlying22 Try.underlying5 Try.underlying9
            go_wp2
            refine Txt.RunPost.mk ?_
            refine Txt.wpTr_alt ?_ ?_
            · simp only [Txt.pick, List.getElem?_cons_succ, List.getElem?_cons_zero]
              go_wp2_with fail
              refine (from_any _ X _ HX6.out.1 HBu3.out.x HX6.out.2).mono ?_
              rintro e u4 ⟨xv, rfl, ho, hb⟩
              have HBu4 := Lib.hid (HBu3.out.next hb)
              obtain ⟨tu4, ht, hT⟩ := ho.recs
              have ht2 : tu4.length ≤ 1000000 := by have := congrArg List.length ht; simp only [List.length_map] at this; have := HX6.out.1; omega
              obtain ⟨atu4, ctu4, rfl⟩ := Raw.slice hT.1
              have HTu4 := Lib.hid hT; have Htu4 := Lib.hid ht; have Ht2u4 := Lib.hid ht2
              clear hb ho hT ht ht2
              go_wp2
              refine Txt.RunPost.mk ?_
              refine Txt.wpTr_alt ?_ ?_
              · simp only [Txt.pick, List.getElem?_cons_succ, List.getElem?_cons_zero]
                go_wp2_with fail
                refine (same_any _ _ tu4 Y _ Ht2u4.out HTu4.out HBu4.out.y (Htu4.out.trans (HXm.out.trans HYm.out.symm))).mono ?_
                rintro e u5 ⟨rfl, hb⟩
                have HBu5 := Lib.hid (HBu4.out.next hb)
                clear hb
                go_wp2
                refine Txt.RunPost.mk ?_
                refine Txt.wpTr_alt ?_ ?_
                · simp only [Txt.pick, List.getElem?_cons_succ, List.getElem?_cons_zero]
                  go_wp2_with fail
                  refine (from_any _ Z _ HZ6.out.1 HBu5.out.z HZ6.out.2).mono ?_
                  rintro e u6 ⟨xv, rfl, ho, hb⟩
                  have HBu6 := Lib.hid (HBu5.out.next hb)
                  obtain ⟨tu6, ht, hT⟩ := ho.recs
                  have ht2 : tu6.length ≤ 1000000 := by have := congrArg List.length ht; simp only [List.length_map] at this; have := HZ6.out.1; omega
                  obtain ⟨atu6, ctu6, rfl⟩ := Raw.slice hT.1
                  have HTu6 := Lib.hid hT; have Htu6 := Lib.hid ht; have Ht2u6 := Lib.hid ht2
                  clear hb ho hT ht ht2
                  go_wp2
                  refine Txt.RunPost.mk ?_
                  refine Txt.wpTr_alt ?_ ?_
                  · simp only [Txt.pick, List.getElem?_cons_succ, List.getElem?_cons_zero]
                    go_wp2_with fail
                    refine (same_any _ _ tu6 rs _ Ht2u6.out HTu6.out HBu6.out.r (Htu6.out.trans (HZm.out))).mono ?_
                    rintro e u7 ⟨rfl, hb⟩
                    have HBu7 := Lib.hid (HBu6.out.next hb)
                    clear hb
                    go_wp2
                    refine Txt.RunPost.mk ?_
                    refine Txt.wpTr_done ?_
                    go_wp2
                    go_ret
                    exact ⟨rfl, HBu7.out.bel⟩
                  · exact Txt.wpTr_no
                · exact Txt.wpTr_no
              · exact Txt.wpTr_no
            · exact Txt.wpTr_no
          · exact Txt.wpTr_no
        · exact Txt.wpTr_no
      · skip
        refine Txt.wpTr_alt ?_ ?_
        · simp only [Txt.pick, List.getElem?_cons_succ, List.getElem?_cons_zero]
          go_wp2_with fail
          refine (rencode_any _ rs _ hl1 HBu2.out.r Hself.out).mono ?_
          rw [HVd.out]
          rintro e u8 ⟨xv, rfl, hr, hb⟩
          have HBu8 := Lib.hid (HBu2.out.next hb)
          obtain ⟨aru8, cru8, rfl⟩ := own_slice hr
          have HSu8 := Lib.hid (Raw.below HSu2.out hb)
          have HRu8 := Lib.hid (BRow.bytes (F := []) hr (fun f hf => by cases hf))
          clear hb hr
          go_wp2
          refine Txt.RunPost.mk ?_
          refine Txt.wpTr_alt ?_ ?_
          · simp only [Txt.pick, List.getElem?_cons_succ, List.getElem?_cons_zero]
            have k1 := run_str HSu8.out 22 5 9 Try.underlying22 Try.underlying5 Try.underlying9
            go_wp2
            refine Txt.RunPost.mk ?_
            refine Txt.wpTr_alt ?_ ?_
            · simp only [Txt.pick, List.getElem?_cons_succ, List.getElem?_cons_zero]
              have k2 := run_str HRu8.out 22 5 9 Try.underlying22 Try.underlying5 Try.underlying9
              go_wp2
              refine Txt.RunPost.mk ?_
              refine Txt.wpTr_alt ?_ ?_
              · simp only [Txt.pick, List.getElem?_cons_succ, List.getElem?_cons_zero]
                go_wp2_with fail
                refine (from_any _ X _ HX6.out.1 HBu8.out.x HX6.out.2).mono ?_
                rintro e u9 ⟨xv, rfl, ho, hb⟩
                have HBu9 := Lib.hid (HBu8.out.next hb)
                obtain ⟨tu9, ht, hT⟩ := ho.recs
                have ht2 : tu9.length ≤ 1000000 := by have := congrArg List.length ht; simp only [List.length_map] at this; have := HX6.out.1; omega
                obtain ⟨atu9, ctu9, rfl⟩ := Raw.slice hT.1
                have HTu9 := Lib.hid hT; have Htu9 := Lib.hid ht; have Ht2u9 := Lib.hid ht2
                clear hb ho hT ht ht2
                go_wp2
                refine Txt.RunPost.mk ?_
                refine Txt.wpTr_alt ?_ ?_
                · simp only [Txt.pick, List.getElem?_cons_succ, List.getElem?_cons_zero]
                  go_wp2_with fail
                  refine (same_any _ _ tu9 Y _ Ht2u9.out HTu9.out HBu9.out.y (Htu9.out.trans (HXm.out.trans HYm.out.symm))).mono ?_
                  rintro e u10 ⟨rfl, hb⟩
                  have HBu10 := Lib.hid (HBu9.out.next hb)
                  clear hb
                  go_wp2
                  refine Txt.RunPost.mk ?_
                  refine Txt.wpTr_alt ?_ ?_
                  · simp only [Txt.pick, List.getElem?_cons_succ, List.getElem?_cons_zero]
                    go_wp2_with fail
                    refine (from_any _ Z _ HZ6.out.1 HBu10.out.z HZ6.out.2).mono ?_
                    rintro e u11 ⟨xv, rfl, ho, hb⟩
                    have HBu11 := Lib.hid (HBu10.out.next hb)
                    obtain ⟨tu11, ht, hT⟩ := ho.recs
                    have ht2 : tu11.length ≤ 1000000 := by have := congrArg List.length ht; simp only [List.length_map] at this; have := HZ6.out.1; omega
                    obtain ⟨atu11, ctu11, rfl⟩ := Raw.slice hT.1
                    have HTu11 := Lib.hid hT; have Htu11 := Lib.hid ht; have Ht2u11 := Lib.hid ht2
                    clear hb ho hT ht ht2
                    go_wp2
                    refine Txt.RunPost.mk ?_
                    refine Txt.wpTr_alt ?_ ?_
                    · simp only [Txt.pick, List.getElem?_cons_succ, List.getElem?_cons_zero]
                      go_wp2_with fail
                      refine (same_any _ _ tu11 rs _ Ht2u11.out HTu11.out HBu11.out.r (Htu11.out.trans (HZm.out))).mono ?_
                      rintro e u12 ⟨rfl, hb⟩
                      have HBu12 := Lib.hid (HBu11.out.next hb)
                      clear hb
                      go_wp2
                      refine Txt.RunPost.mk ?_
                      refine Txt.wpTr_done ?_
                      go_wp2
                      go_ret
                      exact ⟨rfl, HBu12.out.bel⟩
                    · exact Txt.wpTr_no
                  · exact Txt.wpTr_no
                · exact Txt.wpTr_no
              · exact Txt.wpTr_no
            · exact Txt.wpTr_no
          · skip
            refine Txt.wpTr_alt ?_ ?_
            · simp only [Txt.pick, List.getElem?_cons_succ, List.getElem?_cons_zero]
              have k2 := run_str HRu8.out 22 5 9 Try.underlying22 Try.underlying5 Try.underlying9
              go_wp2
              refine Txt.RunPost.mk ?_
              refine Txt.wpTr_alt ?_ ?_
              · simp only [Txt.pick, List.getElem?_cons_succ, List.getElem?_cons_zero]
                have k1 := run_str HSu8.out 22 5 9 Try.underlying22 Try.underlying5 Try.underlying9
                go_wp2
                refine Txt.RunPost.mk ?_
                refine Txt.wpTr_alt ?_ ?_
                · simp only [Txt.pick, List.getElem?_cons_succ, List.getElem?_cons_zero]
                  go_wp2_with fail
                  refine (from_any _ X _ HX6.out.1 HBu8.out.x HX6.out.2).mono ?_
                  rintro e u13 ⟨xv, rfl, ho, hb⟩
                  have HBu13 := Lib.hid (HBu8.out.next hb)
                  obtain ⟨tu13, ht, hT⟩ := ho.recs
                  have ht2 : tu13.length ≤ 1000000 := by have := congrArg List.length ht; simp only [List.length_map] at this; have := HX6.out.1; omega
                  obtain ⟨atu13, ctu13, rfl⟩ := Raw.slice hT.1
                  have HTu13 := Lib.hid hT; have Htu13 := Lib.hid ht; have Ht2u13 := Lib.hid ht2
                  clear hb ho hT ht ht2
                  go_wp2
                  refine Txt.RunPost.mk ?_
                  refine Txt.wpTr_alt ?_ ?_
                  · simp only [Txt.pick, List.getElem?_cons_succ, List.getElem?_cons_zero]
                    go_wp2_with fail
                    refine (same_any _ _ tu13 Y _ Ht2u13.out HTu13.out HBu13.out.y (Htu13.out.trans (HXm.out.trans HYm.out.symm))).mono ?_
                    rintro e u14 ⟨rfl, hb⟩
                    have HBu14 := Lib.hid (HBu13.out.next hb)
                    clear hb
                    go_wp2
                    refine Txt.RunPost.mk ?_
                    refine Txt.wpTr_alt ?_ ?_
                    · simp only [Txt.pick, List.getElem?_cons_succ, List.getElem?_cons_zero]
                      go_wp2_with fail
                      refine (from_any _ Z _ HZ6.out.1 HBu14.out.z HZ6.out.2).mono ?_
                      rintro e u15 ⟨xv, rfl, ho, hb⟩
                      have HBu15 := Lib.hid (HBu14.out.next hb)
                      obtain ⟨tu15, ht, hT⟩ := ho.recs
                      have ht2 : tu15.length ≤ 1000000 := by have := congrArg List.length ht; simp only [List.length_map] at this; have := HZ6.out.1; omega
                      obtain ⟨atu15, ctu15, rfl⟩ := Raw.slice hT.1
                      have HTu15 := Lib.hid hT; have Htu15 := Lib.hid ht; have Ht2u15 := Lib.hid ht2
                      clear hb ho hT ht ht2
                      go_wp2
                      refine Txt.RunPost.mk ?_
                      refine Txt.wpTr_alt ?_ ?_
                      · simp only [Txt.pick, List.getElem?_cons_succ, List.getElem?_cons_zero]
                        go_wp2_with fail
                        refine (same_any _ _ tu15 rs _ Ht2u15.out HTu15.out HBu15.out.r (Htu15.out.trans (HZm.out))).mono ?_
                        rintro e u16 ⟨rfl, hb⟩
                        have HBu16 := Lib.hid (HBu15.out.next hb)
                        clear hb
                        go_wp2
                        refine Txt.RunPost.mk ?_
                        refine Txt.wpTr_done ?_
                        go_wp2
                        go_ret
                        exact ⟨rfl, HBu16.out.bel⟩
                      · exact Txt.wpTr_no
                    · exact Txt.wpTr_no
                  · exact Txt.wpTr_no
                · exact Txt.wpTr_no
              · exact Txt.wpTr_no
            · exact Txt.wpTr_no
        · exact Txt.wpTr_no
    · exact Txt.wpTr_no
  · exact Txt.wpTr_no
end Go.Proofs.Yteefimjgcabpoaa
