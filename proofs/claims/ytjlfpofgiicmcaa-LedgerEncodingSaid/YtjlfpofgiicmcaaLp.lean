/- Ledger: the reference's Decode -/
import Derived.Test.YtjlfpofgiicmcaaLn
namespace Go.Proofs.Ytjlfpofgiicmcaa
open Go.RowKit Go.Bs Go.Cl Go.Rw Go.Lg Go.Wi
set_option maxRecDepth 100000 in
set_option maxHeartbeats 2000000 in
theorem rdecode_any (bv : Value) (b : List UInt8) (w : World) (hB : Bytes [] w bv b) (hbl : b.length ≤ 1000000) :
    Calls Try.prog 20 #[bv] w (RetD (decL b) w) := by
  obtain ⟨ba, bc, rfl⟩ := Raw.slice hB
  have hal := (Below.refl w.heap.size w).alloc (Nat.le_refl _) (.cells #[] 5)
  have Hemp := Lib.hid (own_empty w w.heap.size 5 1 (Nat.le_refl _))
  have HB1 := Lib.hid (Raw.below hB hal)
  clear hB
  obtain ⟨rv0, hr0⟩ : ∃ r, rB b 0 32 (0, false) = r := ⟨_, rfl⟩
  have hbd := rB_bound b (lo := 0) (hi := 32) (by omega) (by omega) (0, false)
  have hdec : decL b = (if decide (rEnd b (decN b rv0.1.toNat rv0.2 []).2 = 0) && validL (decN b rv0.1.toNat rv0.2 []).1 then ((decN b rv0.1.toNat rv0.2 []).1, 0) else ([], 4)) := by unfold decL; rw [hr0]
  have Hdec := Lib.hid hdec; clear hdec
  rw [hr0] at hbd
  obtain ⟨nI, s0⟩ := rv0
  simp only at hbd Hdec
  obtain ⟨n, rfl⟩ : ∃ n : Nat, nI = n := ⟨nI.toNat, by omega⟩
  rw [Int.toNat_natCast] at Hdec
  have Hr0 := Lib.hid hr0; clear hr0
  have hn32 : n ≤ 32 := by omega
  clear hbd
  go_enter Try.func20, Try.ntmps20
  go_wp2_with (at_builtin; refine wpList_app elB Try.underlying43 Hemp.out HB1.out hal rfl _ _ rfl rfl rfl ?c3 ?cB ?c5 ?_)
  case c3 => omega
  case cB => exact Nat.le_refl _
  case c5 => simp
  intro v1 w1 hown1 hb1 hg1 hs1
  have hrow : BRow 5 w1 w.heap.size v1 b := by show w1.ownsRow w.heap.size 5 1 v1 b.length (bytesV b); simpa using hown1
  obtain ⟨a1, c1, rfl⟩ := own_slice hrow
  have hal2 := (Below.refl w1.heap.size w1).alloc (Nat.le_refl _) (.cells #[.slice a1 b.length c1, .int .i64 0, .bool false] 68)
  have hby : Bytes [w1.heap.size] (w1.alloc (.cells #[.slice a1 b.length c1, .int .i64 0, .bool false] 68)) (.slice a1 b.length c1) b :=
    Raw.keep (BRow.bytes (F := []) hrow (fun f hf => by cases hf)) (Keep.of_below' (F := []) hal2) (fun f hf => by cases hf) (fun f hf => by rw [List.mem_singleton.1 hf]; exact .inr (Nat.le_refl _))
  have hrd : RdAt 68 (w1.alloc (.cells #[.slice a1 b.length c1, .int .i64 0, .bool false] 68)) w1.heap.size (.slice a1 b.length c1) b 0 false := ⟨heap_alloc_new w1 _, hby, Nat.zero_le _⟩
  have hg : w.heap.size ≤ w1.heap.size := hb1.size
  have hbel1 := hb1.trans (hal2.mono hg)
  obtain ⟨rv, hrv⟩ : ∃ rv : Value, rv = .slice a1 b.length c1 := ⟨_, rfl⟩
  rw [← hrv] at hrd hbel1
  obtain ⟨g, hgd⟩ : ∃ g, g = w1.heap.size := ⟨_, rfl⟩
  rw [← hgd] at hrd hg
  have Hgd := Lib.hid hgd
  have Hrv := Lib.hid hrv
  have Hrd := Lib.hid hrd
  have Hbel := Lib.hid hbel1
  clear hrow hown1 hg1 hal2 hby hrd hbel1 hgd hrv
  go_wp2_with fail
  rw [← Hgd.out, ← Hrv.out]
  refine (rBounded_any g rv b 0 false 0 32 _ Hrd.out hbl).mono ?_
  rw [Hr0.out]
  rintro e w2 ⟨rfl, hR2⟩
  have hbel2 := RdR.low hR2 hg Hbel.out.size Hbel.out
  have HO := Lib.hid (RdO.start (enc := encL) (k := 2) (e := 30) (base := w.heap.size) hR2.1)
  clear hR2
  go_wp2
  go_loopw [6, 7] (fun ov i wr => ∃ (k : Nat) (s : Nat × Bool) (acc : List Lt), k ≤ n ∧ i = .int .i64 k ∧ acc.length = k ∧ decN b (n - k) s acc = decN b n s0 [] ∧ RdO encL 2 68 30 wr w.heap.size g rv b s ov acc ∧ Below w.heap.size w wr) (fun _ i _ => n - (intOf i).toNat)
  case atStart => exact ⟨0, s0, [], Nat.zero_le _, rfl, rfl, rfl, HO.out, hbel2⟩
  case round =>
    clear HO hbel2
    obtain ⟨k, s, acc, hk, rfl, hacc, hdk, hO, hbel⟩ := hrel
    obtain ⟨oa, oc, rfl⟩ := own_slice hO.row
    have HO := Lib.hid hO; clear hO
    have Hdk := Lib.hid hdk; clear hdk
    have hsz := hbel.size
    have Hacc := Lib.hid hacc; clear hacc
    by_cases hlt : k < n
    · obtain ⟨r1, hr1⟩ : ∃ r, rI b s = r := ⟨_, rfl⟩
      obtain ⟨t, s1⟩ := r1
      obtain ⟨r2, hr2⟩ : ∃ r, rI b s1 = r := ⟨_, rfl⟩
      obtain ⟨q, s2⟩ := r2
      have hd2 : decN b (n - (k + 1)) s2 (acc ++ [⟨t, q⟩]) = decN b n s0 [] := by
        have := Hdk.out
        rw [show n - k = (n - (k + 1)) + 1 by omega] at this
        rw [decN_succ, hr1] at this
        simp only at this
        rw [hr2] at this
        exact this
      have Hd2 := Lib.hid hd2; clear hd2
      have Hr1 := Lib.hid hr1; have Hr2 := Lib.hid hr2; clear hr1 hr2
      have hlt' : (k : Int) < n := by omega
      go_wp2_with fail
      refine (rInt_any g rv b s.1 s.2 _ HO.out.rd hbl).mono ?_
      rw [show ((s.1, s.2) : Nat × Bool) = s from rfl, Hr1.out]
      rintro e w3 ⟨rfl, hR3⟩
      have hbel3 := RdR.low hR3 hg hsz hbel
      have HO3 := Lib.hid (HO.out.read hR3)
      clear hR3
      simp only
      go_wp2_with fail
      refine (rInt_any g rv b s1.1 s1.2 _ HO3.out.rd hbl).mono ?_
      rw [show ((s1.1, s1.2) : Nat × Bool) = s1 from rfl, Hr2.out]
      rintro e w5 ⟨rfl, hR5⟩
      have hbel5 := RdR.low hR5 hg hbel3.size hbel3
      have hO5 := HO3.out.read hR5
      have hal5 := (Below.refl w5.heap.size w5).alloc (Nat.le_refl _) (.cells #[.int .i64 t, .int .i64 q] 30)
      have HO7 := Lib.hid (hO5.below hal5)
      have hbel7 := hbel5.trans (hal5.mono hbel5.size)
      have HX7 := Lib.hid (box2 w5.heap.size ⟨t, q⟩ (heap_alloc_new w5 (.cells #[.int .i64 t, .int .i64 q] 30)))
      clear hR5 hO5 hal5
      simp only
      go_wp2_with (at_builtin; refine wpList_appF el22 Try.underlying22 HO7.out.row HX7.out hbel7 rfl _ _ rfl rfl rfl ?c3 ?cB ?c5 ?_)
      case c3 => have := Hacc.out; omega
      case c5 => first | exact hbel7.size | exact Nat.le_succ_of_le hbel5.size
      intro v8 w8 hown8 hbel8 hk8 hn8
      have HO8 := Lib.hid (HO7.out.push (x := ⟨t, q⟩) hown8 hk8 (by simpa using hn8))
      obtain ⟨a8, c8, rfl⟩ := own_slice hown8
      clear hown8 hk8 hn8
      go_wp2
      go_roundw
      case rel => exact ⟨k + 1, s2, _, hlt, by go_num, by have := Hacc.out; simp; omega, Hd2.out, HO8.out, hbel8⟩
      case measure => simp [intOf]; omega
    · obtain rfl : k = n := by omega
      have hfin := Hdk.out
      rw [Nat.sub_self] at hfin
      have hfin : decN b k s0 [] = (acc, s) := hfin.symm
      rw [hfin] at Hdec
      have HS := Lib.hid (SlL.of_own HO.out.row)
      have hacc3 := Hacc.out
      have hacc6 : acc.length ≤ 1000000 := by omega
      clear hfin hacc3
      go_wp2_with fail
      refine (rend_any g rv b s.1 s.2 _ HO.out.rd hbl).mono ?_
      rintro e w3 ⟨rfl, hb3⟩
      have hbel3 := hbel.trans (hb3.mono hsz)
      have HS3 := Lib.hid (HS.out.below hb3)
      clear hb3
      rw [show ((s.1, s.2) : Nat × Bool) = s from rfl]
      rcases rEnd_cases b s with hre | hre
      · rw [hre] at Hdec ⊢
        go_wp2_with fail
        refine (rvalid_any _ acc _ hacc6 HS3.out).mono ?_
        rintro e w4 ⟨rfl, hb4⟩
        have hbel4 := hbel3.trans (hb4.mono hbel3.size)
        have HS4 := Lib.hid (HS3.out.below hb4)
        clear hb4
        cases hv : validL acc
        · rw [hv] at Hdec
          have Hd : Hid (decL b = ([], 4)) := Lib.hid (by rw [Hdec.out]; rfl)
          clear hv
          go_wp2
          go_ret2
          rw [Hd.out]
          exact ⟨_, rfl, Raw.empty _ _ _, hbel4⟩
        · rw [hv] at Hdec
          have Hd : Hid (decL b = (acc, 0)) := Lib.hid (by rw [Hdec.out]; rfl)
          clear hv
          go_wp2
          go_ret2
          rw [Hd.out]
          exact ⟨_, rfl, HS4.out, hbel4⟩
      · rw [hre] at Hdec ⊢
        have Hd : Hid (decL b = ([], 4)) := Lib.hid (by rw [Hdec.out]; rfl)
        go_wp2
        go_ret2
        rw [Hd.out]
        exact ⟨_, rfl, Raw.empty _ _ _, hbel3⟩
end Go.Proofs.Ytjlfpofgiicmcaa
