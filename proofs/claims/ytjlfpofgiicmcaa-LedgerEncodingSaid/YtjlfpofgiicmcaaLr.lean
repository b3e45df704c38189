/- Ledger: the reference's Encode -/
import Derived.Test.YtjlfpofgiicmcaaLq
namespace Go.Proofs.Ytjlfpofgiicmcaa
open Go.RowKit Go.Bs Go.Cl Go.Rw Go.Lg Go.Wi
theorem brow_app {e m : Nat} {w : World} {base : Nat} {v : Value} {l1 l2 : List UInt8} (hm : m = l2.length) (h : w.ownsRow base e 1 v (l1.length + m) (bytesV l1 ++ bytesV l2)) : BRow e w base v (l1 ++ l2) := by
  subst hm
  show w.ownsRow base e 1 v (l1 ++ l2).length (bytesV (l1 ++ l2))
  rw [List.length_append, bytesV_append]; exact h
set_option maxRecDepth 100000 in
set_option maxHeartbeats 2000000 in
theorem rencode_any (v : Value) (l : List Lt) (w : World) (hl : l.length ≤ 1000) (h : SlL w v l) (hf : ∀ x ∈ l, fitsL x) :
    Calls Try.prog 22 #[v] w (RetB (encV l) w) := by
  obtain ⟨a, cap, rfl⟩ := Raw.slice h
  have H := Lib.hid h; clear h
  have HF := Lib.hid hf; clear hf
  have hl6 : l.length ≤ 1000000 := by omega
  cases hv : validL l
  · have He : Hid (encV l = []) := Lib.hid (by simp [encV, hv])
    go_enter Try.func22, Try.ntmps22
    go_wp2_with fail
    refine (rvalid_any _ l _ hl6 H.out).mono ?_
    rintro e w1 ⟨rfl, hb1⟩
    rw [hv]
    go_wp2
    go_ret
    rw [He.out]
    exact ⟨_, rfl, World.ownsRow_nil _ _ _ _, hb1⟩
  · have He : Hid (encV l = encI l.length ++ l.flatMap encX) := Lib.hid (by simp [encV, hv])
    have hfl : Wi.fits (l.length : Int) := by unfold Wi.fits; omega
    have Hfl := Lib.hid hfl; clear hfl
    go_enter Try.func22, Try.ntmps22
    go_wp2_with fail
    refine (rvalid_any _ l _ hl6 H.out).mono ?_
    rintro e w1 ⟨rfl, hb1⟩
    rw [hv]
    have hs1 := hb1.size
    go_wp2_with fail
    refine (rint_any (l.length : Int) _ Hfl.out).mono ?_
    rintro e w2 ⟨v2, rfl, hr2, hb2⟩
    have hbel2 := hb1.trans (hb2.mono hs1)
    have HR2 : Hid (BRow 5 w2 w.heap.size v2 (encI l.length)) := Lib.hid (own_base hr2 hs1)
    clear hr2 hb1 hb2
    go_wp2
    go_loopw [3, 4] (fun bv i wr => ∃ k : Nat, k ≤ l.length ∧ i = .int .i64 k ∧ BRow 5 wr w.heap.size bv (encI l.length ++ (l.take k).flatMap encX) ∧ Below w.heap.size w wr) (fun _ i _ => l.length - (intOf i).toNat)
    case atStart => exact ⟨0, Nat.zero_le _, rfl, by simpa using HR2.out, hbel2⟩
    case round =>
      obtain ⟨k, hk, rfl, hrow, hbel⟩ := hrel
      have hsz := hbel.size
      have hfk := encFlat_len (l := l.take k) (fun x hx => HF.out x (List.mem_of_mem_take hx))
      have hel := encI_len Hfl.out
      have hacc : (encI l.length ++ (l.take k).flatMap encX).length ≤ 900000 := by
        rw [List.length_append]
        have : (l.take k).length ≤ l.length := by simp; omega
        omega
      obtain ⟨acc, hac⟩ : ∃ acc, encI l.length ++ (l.take k).flatMap encX = acc := ⟨_, rfl⟩
      rw [hac] at hrow hacc
      have Hac := Lib.hid hac; clear hac
      obtain ⟨ra, rc, rfl⟩ := own_slice hrow
      have HR := Lib.hid hrow
      clear hrow hfk hel
      by_cases hlt : k < l.length
      · obtain ⟨b, off, rfl, hb, h0, h1⟩ := (H.out.below hbel).elem hlt
        have hbw : b < w.heap.size := by
          obtain ⟨b', off', e, hb', _⟩ := H.out.elem hlt
          cases e; exact hb'
        have htf := take_flat hlt
        have hfz := HF.out _ (List.mem_of_getElem? (lt_get hlt))
        obtain ⟨z, hz⟩ : ∃ z, ltAt l k = z := ⟨_, rfl⟩
        rw [hz] at h0 h1 htf hfz
        have Htf := Lib.hid htf; have Hfz := Lib.hid hfz; clear htf hfz hz
        have hS : ∀ b' ∈ [b], ∃ c e f, wr.heap[b']? = some (.cells c e f) := fun b' hb' => by rw [List.mem_singleton.1 hb']; exact Txt.cells_of h0
        have HS := Lib.hid (same_start hS)
        have HRd := Lib.hid HR.out.drew
        have hbelD := hbel.drew
        go_wp2
        refine Txt.wp_cut [7, 1, 6] [b] [12] [14] (by kernel_rfl) (by kernel_rfl) (by kernel_rfl) hS ?_
        clear hS
        simp only [Txt.wpCut, List.take_succ_cons, List.take_zero, List.drop_succ_cons, List.drop_zero]
        go_wp2_with fail
        refine (rint_any z.t _ ⟨Hfz.out.1, Hfz.out.2.1⟩).mono ?_
        rintro e w3 ⟨v3, rfl, hr3, hb3⟩
        have HS3 := Lib.hid (same_below' HS.out hb3)
        have hbel3 := hbelD.trans (hb3.mono hbelD.size)
        have HR3 := Lib.hid (BRow.below HRd.out hb3)
        have HX3 := Lib.hid (BRow.bytes (F := []) hr3 (fun f hf => by cases hf))
        obtain ⟨a3, c3', rfl⟩ := own_slice hr3
        have hl3 := encI_len (n := z.t) ⟨Hfz.out.1, Hfz.out.2.1⟩
        have Hl3 := Lib.hid hl3
        clear hr3 hb3 hl3
        go_wp2
        refine Txt.SegPost.mk HS3.out ?_
        go_wp2_with (at_builtin; refine wpList_appF elB Try.underlying43 HR3.out HX3.out hbel3 rfl _ _ rfl rfl rfl ?c3 ?cB ?c5 ?_)
        case c3 => have := Hl3.out; omega
        case cB => exact Nat.le_refl _
        case c5 => exact hbel3.size
        intro v4 w4 hown4 hbel4 hk4 hn4
        have hrow4 := brow_app rfl hown4
        have HS4 := Lib.hid (same_keep HS3.out hk4 (fun b' hb' hm => by rw [List.mem_singleton.1 hb'] at hm; have := (HR3.out.lt _ (by simpa using hm)).1; omega))
        have h14 : w4.cell? ⟨b, off + k * 2 + 1, none⟩ = some (.int .i64 z.q) := (hbel4.cell (p := ⟨b, off + k * 2 + 1, none⟩) hbw).trans ((hbel.cell (p := ⟨b, off + k * 2 + 1, none⟩) hbw).symm.trans h1)
        obtain ⟨acc4, hac4⟩ : ∃ acc4, acc ++ encI z.t = acc4 := ⟨_, rfl⟩
        have hl4 : acc4.length ≤ 900010 := by rw [← hac4]; have := Hl3.out; simp; omega
        rw [hac4] at hrow4
        have Hac4 := Lib.hid hac4; clear hac4
        have HR4 := Lib.hid hrow4
        obtain ⟨a4, c4, hv4⟩ := own_slice hrow4
        subst hv4
        clear hown4 hk4 hn4 hrow4
        refine Txt.SegPost.mk HS4.out ?_
        go_wp2_with fail
        refine (rint_any z.q _ ⟨Hfz.out.2.2.1, Hfz.out.2.2.2⟩).mono ?_
        rintro e w5 ⟨v5, rfl, hr5, hb5⟩
        have HS5 := Lib.hid (same_below' HS4.out hb5)
        have hbel5 := hbel4.trans (hb5.mono hbel4.size)
        have HR5 := Lib.hid (BRow.below HR4.out hb5)
        have HX5 := Lib.hid (BRow.bytes (F := []) hr5 (fun f hf => by cases hf))
        obtain ⟨a5, c5', rfl⟩ := own_slice hr5
        have hl5 := encI_len (n := z.q) ⟨Hfz.out.2.2.1, Hfz.out.2.2.2⟩
        have Hl5 := Lib.hid hl5
        clear hr5 hb5 hl5
        go_wp2
        refine Txt.SegPost.mk HS5.out ?_
        go_wp2_with (at_builtin; refine wpList_appF elB Try.underlying43 HR5.out HX5.out hbel5 rfl _ _ rfl rfl rfl ?c3 ?cB ?c5 ?_)
        case c3 => have := Hl5.out; omega
        case cB => exact Nat.le_refl _
        case c5 => exact hbel5.size
        intro v6 w6 hown6 hbel6 hk6 hn6
        have hrow6 := brow_app rfl hown6
        have hrow6' : BRow 5 w6 w.heap.size v6 (encI l.length ++ (l.take (k + 1)).flatMap encX) := by
          rw [Htf.out, ← List.append_assoc, Hac.out, ← List.append_assoc, Hac4.out]; exact hrow6
        have HR6 := Lib.hid hrow6'
        clear hown6 hk6 hn6 hrow6 hrow6'
        go_wp2
        refine Txt.DrawPost.mk (by rfl) ⟨.head _, trivial⟩ ?_
        go_wp2
        go_roundw
        case rel => exact ⟨k + 1, hlt, by go_num, HR6.out, hbel6⟩
        case measure => simp [intOf]; omega
      · obtain rfl : k = l.length := by omega
        rw [List.take_length] at Hac
        go_wp2
        go_ret
        rw [He.out, Hac.out]
        exact ⟨_, rfl, HR.out, hbel⟩
end Go.Proofs.Ytjlfpofgiicmcaa
