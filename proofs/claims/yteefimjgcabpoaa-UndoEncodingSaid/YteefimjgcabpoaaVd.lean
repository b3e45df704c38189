/- Undo: the reference's Encode -/
import Derived.Test.YteefimjgcabpoaaVc
namespace Go.Proofs.Yteefimjgcabpoaa
open Go.RowKit Go.Bs Go.Cl Go.Rw Go.Un Go.Wi
set_option maxRecDepth 100000 in
set_option maxHeartbeats 2000000 in
theorem rencode_any (v : Value) (rs : List (Rec × Value)) (w : World) (hl : rs.length ≤ 100) (h : Recs [] w v rs) (hf : ∀ p ∈ rs, p.1.fits ∧ p.1.old.length ≤ 400) :
    Calls Try.prog 30 #[v] w (RetB (encRs (rs.map (·.1))) w) := by
  obtain ⟨a, cap, rfl⟩ := Raw.slice h.1
  have H := Lib.hid h; clear h
  have HF := Lib.hid hf; clear hf
  have He : Hid (encRs (rs.map (·.1)) = encI rs.length ++ (rs.map (·.1)).flatMap encRc) := Lib.hid (by simp [encRs])
  have hfl : Wi.fits (rs.length : Int) := by unfold Wi.fits; omega
  have Hfl := Lib.hid hfl; clear hfl
  go_enter Try.func30, Try.ntmps30
  go_wp2_with fail
  refine (rint_any (rs.length : Int) _ Hfl.out).mono ?_
  rintro e w2 ⟨v2, rfl, hr2, hbel2⟩
  have HR2 := Lib.hid hr2
  clear hr2
  go_wp2
  go_loopw [3, 4] (fun bv i wr => ∃ k : Nat, k ≤ rs.length ∧ i = .int .i64 k ∧ BRow 5 wr w.heap.size bv (encI rs.length ++ ((rs.map (·.1)).take k).flatMap encRc) ∧ Below w.heap.size w wr) (fun _ i _ => rs.length - (intOf i).toNat)
  case atStart => exact ⟨0, Nat.zero_le _, rfl, by simpa using HR2.out, hbel2⟩
  case round =>
    obtain ⟨k, hk, rfl, hrow, hbel⟩ := hrel
    have hsz := hbel.size
    have hfk := encFlat_len (l := (rs.map (·.1)).take k) (fun x hx => by
        obtain ⟨p, hp, rfl⟩ := List.mem_map.1 (List.mem_of_mem_take hx)
        exact HF.out p hp)
    have hel := encI_len Hfl.out
    have hacc : (encI rs.length ++ ((rs.map (·.1)).take k).flatMap encRc).length ≤ 900000 := by
      rw [List.length_append]
      have : ((rs.map (·.1)).take k).length ≤ rs.length := by simp; omega
      omega
    obtain ⟨acc, hac⟩ : ∃ acc, encI rs.length ++ ((rs.map (·.1)).take k).flatMap encRc = acc := ⟨_, rfl⟩
    rw [hac] at hrow hacc
    have Hac := Lib.hid hac; clear hac
    obtain ⟨ra, rc, rfl⟩ := own_slice hrow
    have HR := Lib.hid hrow
    clear hrow hfk hel
    by_cases hlt : k < rs.length
    · obtain ⟨b, off, rfl, hb, h0, h1, h2, hm, qa, qc, hq⟩ := (H.out.below hbel).elem hlt
      have hbw : b < w.heap.size := by
        obtain ⟨b', off', e, hb', _⟩ := H.out.elem hlt
        cases e; exact hb'
      have htf := take_flatR hlt
      have hfz := HF.out _ hm
      have hold := (H.out.2 _ hm)
      obtain ⟨z, hz⟩ : ∃ z, recAt rs k = z := ⟨_, rfl⟩
      rw [hz] at h0 h1 h2 htf hfz hq hold
      obtain ⟨⟨zo, zl, zb⟩, zv⟩ := z
      simp only at h0 h1 h2 hq hfz hold
      subst hq
      obtain ⟨hfz, hzb⟩ := hfz
      have h0k : ∀ wx, Below w.heap.size w wx → wx.cell? ⟨b, off + k * 3, none⟩ = some (.int .i64 zo) := fun wx hx => (hx.cell (p := ⟨b, off + k * 3, none⟩) hbw).trans ((hbel.cell (p := ⟨b, off + k * 3, none⟩) hbw).symm.trans h0)
      have h1k : ∀ wx, Below w.heap.size w wx → wx.cell? ⟨b, off + k * 3 + 1, none⟩ = some (.int .i64 zl) := fun wx hx => (hx.cell (p := ⟨b, off + k * 3 + 1, none⟩) hbw).trans ((hbel.cell (p := ⟨b, off + k * 3 + 1, none⟩) hbw).symm.trans h1)
      have h2k : ∀ wx, Below w.heap.size w wx → wx.cell? ⟨b, off + k * 3 + 2, none⟩ = some (.slice qa zb.length qc) := fun wx hx => (hx.cell (p := ⟨b, off + k * 3 + 2, none⟩) hbw).trans ((hbel.cell (p := ⟨b, off + k * 3 + 2, none⟩) hbw).symm.trans h2)
      have H1k := Lib.hid h1k; have H2k := Lib.hid h2k
      have Htf := Lib.hid htf; have Hfz := Lib.hid hfz; have Hold := Lib.hid hold; clear htf hfz hz hm hold h1k h2k h0k h1 h2
      have hS : ∀ b' ∈ [b], ∃ c e f, wr.heap[b']? = some (.cells c e f) := fun b' hb' => by rw [List.mem_singleton.1 hb']; exact Txt.cells_of h0
      have HS := Lib.hid (same_start hS)
      have HRd := Lib.hid HR.out.drew
      have hbelD := hbel.drew
      go_wp2
      refine Txt.wp_cut [7, 1, 6] [b] [12] [14] (by kernel_rfl) (by kernel_rfl) (by kernel_rfl) hS ?_
      clear hS
      simp only [Txt.wpCut, List.take_succ_cons, List.take_zero, List.drop_succ_cons, List.drop_zero]
      go_wp2_with fail
      refine (rint_any zo _ ⟨Hfz.out.1, Hfz.out.2.1⟩).mono ?_
      rintro e w3 ⟨v3, rfl, hr3, hb3⟩
      have HS3 := Lib.hid (same_below' HS.out hb3)
      have hbel3 := hbelD.trans (hb3.mono hbelD.size)
      have HR3 := Lib.hid (BRow.below HRd.out hb3)
      have HX3 := Lib.hid (BRow.bytes (F := []) hr3 (fun f hf => by cases hf))
      obtain ⟨a3, c3', rfl⟩ := own_slice hr3
      have hl3 := encI_len (n := zo) ⟨Hfz.out.1, Hfz.out.2.1⟩
      have Hl3 := Lib.hid hl3
      clear hr3 hb3 hl3
      go_wp2
      refine Txt.SegPost.mk HS3.out ?_
      go_wp2_with (at_builtin; refine wpList_appF elB Try.underlying22 HR3.out HX3.out hbel3 rfl _ _ rfl rfl rfl ?c3 ?cB ?c5 ?_)
      case c3 => have := Hl3.out; omega
      case cB => exact Nat.le_refl _
      case c5 => exact hbel3.size
      intro v4 w4 hown4 hbel4 hk4 hn4
      have hrow4 := brow_app rfl hown4
      have HS4 := Lib.hid (same_keep HS3.out hk4 (fun b' hb' hm => by rw [List.mem_singleton.1 hb'] at hm; have := (HR3.out.lt _ (by simpa using hm)).1; omega))
      have h14 := H1k.out _ hbel4
      obtain ⟨acc4, hac4⟩ : ∃ acc4, acc ++ encI zo = acc4 := ⟨_, rfl⟩
      have hl4 : acc4.length ≤ 900010 := by rw [← hac4]; have := Hl3.out; simp; omega
      rw [hac4] at hrow4
      have Hac4 := Lib.hid hac4; clear hac4
      have HR4 := Lib.hid hrow4
      obtain ⟨a4, c4, hv4⟩ := own_slice hrow4
      subst hv4
      clear hown4 hk4 hn4 hrow4
      refine Txt.SegPost.mk HS4.out ?_
      go_wp2_with fail
      refine (rint_any zl _ ⟨Hfz.out.2.2.1, Hfz.out.2.2.2⟩).mono ?_
      rintro e w5 ⟨v5, rfl, hr5, hb5⟩
      have HS5 := Lib.hid (same_below' HS4.out hb5)
      have hbel5 := hbel4.trans (hb5.mono hbel4.size)
      have HR5 := Lib.hid (BRow.below HR4.out hb5)
      have HX5 := Lib.hid (BRow.bytes (F := []) hr5 (fun f hf => by cases hf))
      obtain ⟨a5, c5', rfl⟩ := own_slice hr5
      have hl5 := encI_len (n := zl) ⟨Hfz.out.2.2.1, Hfz.out.2.2.2⟩
      have Hl5 := Lib.hid hl5
      clear hr5 hb5 hl5
      go_wp2
      refine Txt.SegPost.mk HS5.out ?_
      go_wp2_with (at_builtin; refine wpList_appF elB Try.underlying22 HR5.out HX5.out hbel5 rfl _ _ rfl rfl rfl ?c3 ?cB ?c5 ?_)
      case c3 => have := Hl5.out; omega
      case cB => exact Nat.le_refl _
      case c5 => exact hbel5.size
      intro v6 w6 hown6 hbel6 hk6 hn6
      have hrow6 := brow_app rfl hown6
      obtain ⟨acc6, hac6⟩ : ∃ acc6, acc4 ++ encI zl = acc6 := ⟨_, rfl⟩
      have hl6 : acc6.length ≤ 900020 := by rw [← hac6]; have := Hl5.out; simp; omega
      rw [hac6] at hrow6
      have Hac6 := Lib.hid hac6; clear hac6
      have HR6 := Lib.hid hrow6
      obtain ⟨a6, c6, hv6⟩ := own_slice hrow6
      subst hv6
      have h26 := H2k.out _ hbel6
      have HX6 : Hid (Bytes [] w6 (.slice qa zb.length qc) zb) := Lib.hid (Raw.below Hold.out hbel6)
      clear hown6 hk6 hn6 hrow6 h14
      go_wp2
      refine Txt.DrawPost.mk (by rfl) ⟨.head _, trivial⟩ ?_
      go_wp2_with fail
      refine (rbytes_any _ zb _ (by omega) HX6.out).mono ?_
      rintro e w7 ⟨v7, rfl, hr7, hb7⟩
      have hbel7 := hbel6.trans (hb7.mono hbel6.size)
      have HR7 := Lib.hid (BRow.below HR6.out hb7)
      have HX7 := Lib.hid (BRow.bytes (F := []) hr7 (fun f hf => by cases hf))
      obtain ⟨a7, c7', rfl⟩ := own_slice hr7
      have hl7 : (encB zb).length ≤ 410 := by
        have h3 := encI_len (n := (zb.length : Int)) (by unfold Wi.fits; omega)
        simp [encB]; omega
      clear hr7 hb7
      go_wp2_with (at_builtin; refine wpList_appF elB Try.underlying22 HR7.out HX7.out hbel7 rfl _ _ rfl rfl rfl ?c3 ?cB ?c5 ?_)
      case c3 => omega
      case cB => exact Nat.le_refl _
      case c5 => exact hbel7.size
      intro v8 w8 hown8 hbel8 hk8 hn8
      have hrow8 := brow_app rfl hown8
      have hrow8' : BRow 5 w8 w.heap.size v8 (encI rs.length ++ ((rs.map (·.1)).take (k + 1)).flatMap encRc) := by
        rw [Htf.out, ← List.append_assoc, Hac.out]
        simp only [encRc, ← List.append_assoc]
        rw [Hac4.out, Hac6.out]
        exact hrow8
      have HR8 := Lib.hid hrow8'
      clear hown8 hk8 hn8 hrow8 hrow8'
      go_wp2
      go_roundw
      case rel => exact ⟨k + 1, hlt, by go_num, HR8.out, hbel8⟩
      case measure => simp [intOf]; omega
    · obtain rfl : k = rs.length := by omega
      have hac := Hac.out
      rw [List.take_of_length_le (by simp)] at hac
      have Hac2 := Lib.hid hac; clear hac
      go_wp2
      go_ret
      rw [He.out, Hac2.out]
      exact ⟨_, rfl, HR.out, hbel⟩
end Go.Proofs.Yteefimjgcabpoaa
