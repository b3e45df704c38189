/- attempt: Normal, Judge -/
import Derived.Test.YtbpifaamlcjocaaGa
namespace Go.Proofs.Ytbpifaamlcjocaa
open Go.RowKit Go.Bs Go.Cl Go.Rw Go.Un Go.Im Go.Fa
set_option maxRecDepth 100000 in
set_option maxHeartbeats 2000000 in
theorem normal_any (F : List Nat) (b n e : List UInt8) (bv nv ev : Value) (k : Int) (hk : k ≤ 1099511627776) (w : World) (hbl : b.length ≤ 24000) (hnl : n.length ≤ 24000) (hel : e.length ≤ 24000) (hB : Bytes F w bv b) (hN : Bytes F w nv n) (hE : Bytes F w ev e) :
    Calls Try.prog 19 #[bv, nv, ev, .int .i64 k] w fun r w' => ∃ iv' ev', r = .returned (.agg #[.int .i64 0, .int .i64 (cost b.length n.length k), .int .i64 0, iv', ev']) ∧
      w'.ownsRow w.heap.size 5 1 iv' n.length (bytesV n) ∧ w'.ownsRow w.heap.size 5 1 ev' e.length (bytesV e) ∧ Below w.heap.size w w' := by
  obtain ⟨ba, bc, rfl⟩ := Raw.slice hB
  obtain ⟨na, nc, rfl⟩ := Raw.slice hN
  obtain ⟨ea, ec, rfl⟩ := Raw.slice hE
  obtain ⟨u, hu⟩ : ∃ u, u = w.alloc (.cells #[.int .i64 0, .int .i64 0, .int .i64 0, .slice none 0 0, .slice none 0 0] 49) := ⟨_, rfl⟩
  obtain ⟨R, hR⟩ : ∃ R, R = w.heap.size := ⟨_, rfl⟩
  have HU := Lib.hid hu
  have hbu : Below w.heap.size w u := by rw [hu]; exact (Below.refl _ w).alloc (Nat.le_refl _) _
  have HL := Lib.hid hbu
  have HRu : Hid (u.heap[R]? = some (.cells #[.int .i64 0, .int .i64 0, .int .i64 0, .slice none 0 0, .slice none 0 0] 49 (0, 0))) := Lib.hid (by rw [hu, hR]; exact heap_alloc_new w _)
  have HNu := Lib.hid (Raw.below hN hbu)
  have HEu := Lib.hid (Raw.below hE hbu)
  have hRu : R < u.heap.size := by rw [hu, hR]; simp
  have hwR : w.heap.size ≤ R := by omega
  have hwu : w.heap.size ≤ u.heap.size := hbu.size
  clear hu hbu hB hN hE
  go_enter Try.func19, Try.ntmps19
  go_upto_region 1 with (fail)
  rw [← HU.out, ← hR]
  clear hR HU
  go_wp2_with fail
  refine (acost_any b.length n.length k (by omega) (by omega) (by omega) (by omega) hk _).mono ?_
  rintro r w1 ⟨rfl, rfl⟩
  obtain ⟨C, hC⟩ : ∃ C, C = cost b.length n.length k := ⟨_, rfl⟩
  rw [← hC]
  have HC := Lib.hid hC
  clear hC
  go_wp2_with fail
  refine (clone33 _ (by omega) HNu.out).mono ?_
  rintro r w2 ⟨v2, rfl, hown2, hb2⟩
  obtain ⟨a2, c2, rfl⟩ := own_slice hown2
  have hs2 := hb2.size
  have HO2 := Lib.hid hown2
  have HB2 := Lib.hid hb2
  clear hown2 hb2
  go_wp2_with fail
  refine (clone33 _ (by omega) (Raw.below HEu.out HB2.out)).mono ?_
  rintro r w3 ⟨v3, rfl, hown3, hb3⟩
  obtain ⟨a3, c3, rfl⟩ := own_slice hown3
  have HB3 := Lib.hid (HB2.out.trans (hb3.mono hs2))
  have HO3 := Lib.hid (own_base hown3 hs2)
  have HO2' := Lib.hid (own_below HO2.out hb3 (Nat.le_refl _))
  have HR3 := Lib.hid ((HB3.out.block R hRu).trans HRu.out)
  clear hown3 hb3
  have r0 := box_at HR3.out (j := 0) rfl
  have r1 := box_at HR3.out (j := 1) rfl
  have r2 := box_at HR3.out (j := 2) rfl
  have r3 := box_at HR3.out (j := 3) rfl
  have r4 := box_at HR3.out (j := 4) rfl
  have f0 := box_free HR3.out 0
  have f1 := box_free HR3.out 1
  have f2 := box_free HR3.out 2
  have f3 := box_free HR3.out 3
  have f4 := box_free HR3.out 4
  go_wp2
  obtain ⟨hR, hK⟩ := puts_at [(0, .int .i64 0), (1, .int .i64 C), (2, .int .i64 0), (3, .slice a2 n.length c2), (4, .slice a3 e.length c3)] HR3.out
  refine bodyPost_ret (results_c rfl _ _ _ _ _ _ _ rfl hR Try.underlying49 rfl (by kernel_rfl)) rfl ?_
  have hL3 := HL.out.trans (HB3.out.mono hwu)
  refine ⟨_, _, by rw [← HC.out]; rfl, own_base (own_keep HO2'.out hK (fun q hq hm => by have := (HO2'.out.lt q hq).1; rw [List.mem_singleton] at hm; omega)) hwu, own_base (own_keep HO3.out hK (fun q hq hm => by have := (HO3.out.lt q hq).1; rw [List.mem_singleton] at hm; omega)) hwu, hL3.trans (hK.below hL3.size (fun f hf => by rw [List.mem_singleton.1 hf]; omega))⟩
set_option maxRecDepth 100000 in
set_option maxHeartbeats 8000000 in
theorem judge_any (F : List Nat) (a b : Oc) (i1 e1 i2 e2 : Value) (p : Bool) (w : World) (hI1 : Bytes F w i1 a.im) (hE1 : Bytes F w e1 a.ef) (hI2 : Bytes F w i2 b.im) (hE2 : Bytes F w e2 b.ef) :
    Calls Try.prog 21 #[.agg #[.int .i64 a.en, .int .i64 a.st, .int .i64 a.er, i1, e1], .agg #[.int .i64 b.en, .int .i64 b.st, .int .i64 b.er, i2, e2], .bool p] w fun r w' => r = .returned (.agg #[.int .i64 (judge a b p), .int .i64 (jst a b)]) ∧ Below w.heap.size w w' := by
  obtain ⟨ai, ac, rfl⟩ := Raw.slice hI1
  obtain ⟨ae, aec, rfl⟩ := Raw.slice hE1
  obtain ⟨bi, bc, rfl⟩ := Raw.slice hI2
  obtain ⟨be, bec, rfl⟩ := Raw.slice hE2
  have HI1 := Lib.hid hI1; have HE1 := Lib.hid hE1; have HI2 := Lib.hid hI2; have HE2 := Lib.hid hE2
  clear hI1 hE1 hI2 hE2
  obtain ⟨u, hu⟩ : ∃ u, u = ((w.alloc (.cells #[.int .i64 a.en, .int .i64 a.st, .int .i64 a.er, (.slice ai a.im.length ac), (.slice ae a.ef.length aec)] 49)).alloc (.cells #[.int .i64 b.en, .int .i64 b.st, .int .i64 b.er, (.slice bi b.im.length bc), (.slice be b.ef.length bec)] 49)).alloc (.cells #[.int .i64 0, .int .i64 0] 54) := ⟨_, rfl⟩
  have HU := Lib.hid hu
  have HLu : Hid (Below w.heap.size w u) := Lib.hid (by rw [hu]; exact b3 _ _ _ _)
  have HAu : Hid (u.heap[w.heap.size]? = some (.cells #[.int .i64 a.en, .int .i64 a.st, .int .i64 a.er, (.slice ai a.im.length ac), (.slice ae a.ef.length aec)] 49 (0, 0))) := Lib.hid (by rw [hu]; exact (((Below.refl ((w.alloc _).alloc _).heap.size _).alloc (Nat.le_refl _) _).block w.heap.size (by simp; omega)).trans (a2_0 w _ _))
  have HBu : Hid (u.heap[w.heap.size + 1]? = some (.cells #[.int .i64 b.en, .int .i64 b.st, .int .i64 b.er, (.slice bi b.im.length bc), (.slice be b.ef.length bec)] 49 (0, 0))) := Lib.hid (by rw [hu]; exact (((Below.refl ((w.alloc _).alloc _).heap.size _).alloc (Nat.le_refl _) _).block (w.heap.size + 1) (by simp)).trans (a2_1 w _ _))
  have HRu : Hid (u.heap[w.heap.size + 1 + 1]? = some (.cells #[.int .i64 0, .int .i64 0] 54 (0, 0))) := Lib.hid (by rw [hu]; exact a3 _ _ _ _)
  have hus : u.heap.size = w.heap.size + 3 := by rw [hu]; simp
  clear hu
  go_enter Try.func21, Try.ntmps21
  go_upto_region 1 with (fail)
  rw [← HU.out]
  obtain ⟨A, hA⟩ : ∃ A, A = w.heap.size := ⟨_, rfl⟩
  obtain ⟨B, hB⟩ : ∃ B, B = w.heap.size + 1 := ⟨_, rfl⟩
  obtain ⟨R, hR⟩ : ∃ R, R = w.heap.size + 1 + 1 := ⟨_, rfl⟩
  rw [← hR, ← hB, ← hA]
  rw [← hA] at HAu; rw [← hB] at HBu; rw [← hR] at HRu
  have hAB : A < B := by omega
  have hBR : B < R := by omega
  have hRu : R < u.heap.size := by omega
  have hwA : w.heap.size ≤ A := by omega
  clear hA hB hR hus HU
  have a0 := box_at HAu.out (j := 0) rfl
  have a1 := box_at HAu.out (j := 1) rfl
  have a2 := box_at HAu.out (j := 2) rfl
  have a3 := box_at HAu.out (j := 3) rfl
  have a4 := box_at HAu.out (j := 4) rfl
  have b0 := box_at HBu.out (j := 0) rfl
  have b1 := box_at HBu.out (j := 1) rfl
  have b2 := box_at HBu.out (j := 2) rfl
  have b3 := box_at HBu.out (j := 3) rfl
  have b4 := box_at HBu.out (j := 4) rfl
  go_upto_region 3 with (fail)
  have hjs : wrap64 (wrap64 (a.st + b.st) + 1) = jst a b := rfl
  try rw [hjs]
  obtain ⟨V, hV⟩ : ∃ V, V = u.heap.size := ⟨_, rfl⟩
  obtain ⟨w1, hw1⟩ : ∃ w1, w1 = u.alloc (.cells #[.int .i64 0, .int .i64 (jst a b)] 54) := ⟨_, rfl⟩
  rw [← hw1, ← hV]
  have hb1 : Below u.heap.size u w1 := by rw [hw1]; exact (Below.refl _ u).alloc (Nat.le_refl _) _
  have HV1 : Hid (w1.heap[V]? = some (.cells #[.int .i64 0, .int .i64 (jst a b)] 54 (0, 0))) := Lib.hid (by rw [hw1, hV]; exact heap_alloc_new u _)
  have hs1 := hb1.size
  have HL1 := Lib.hid (HLu.out.trans (hb1.mono HLu.out.size))
  have HA1 := Lib.hid ((hb1.block A (by omega)).trans HAu.out)
  have HB1 := Lib.hid ((hb1.block B (by omega)).trans HBu.out)
  have HR1 := Lib.hid ((hb1.block R (by omega)).trans HRu.out)
  have hRV : R < V := by omega
  have hV1 : V < w1.heap.size := (Array.getElem?_eq_some_iff.1 HV1.out).1
  clear hb1 hw1 hV hjs a0 a1 a2 a3 a4 b0 b1 b2 b3 b4
  go_wp2_with fail
  refine (one_bad A B a b _ _ _ _ _ HA1.out HB1.out).mono ?_
  rintro e w2 ⟨rfl, hb2⟩
  have hs2 := hb2.size
  have HL2 := Lib.hid (HL1.out.trans (hb2.mono HL1.out.size))
  have HA2 := Lib.hid ((hb2.block A (by omega)).trans HA1.out)
  have HB2 := Lib.hid ((hb2.block B (by omega)).trans HB1.out)
  have HR2 := Lib.hid ((hb2.block R (by omega)).trans HR1.out)
  have HV2 := Lib.hid ((hb2.block V (by omega)).trans HV1.out)
  clear hb2
  cases hbad : (a.bad || b.bad)
  rotate_left
  · have HJ := Lib.hid (show judge a b p = 1 from by unfold judge; rw [if_pos hbad])
    have v0 := box_at HV2.out (j := 0) rfl
    have v1 := box_at HV2.out (j := 1) rfl
    have z0 := box_free HV2.out 0
    have r0 := box_at HR2.out (j := 0) rfl
    have r1 := box_at HR2.out (j := 1) rfl
    have q0 := box_free HR2.out 0
    have q1 := box_free HR2.out 1
    go_upto_region 13 with (fail)
    obtain ⟨X, hX⟩ : ∃ X, X = w2.setCell ⟨V, 0, none⟩ (.int .i64 1) := ⟨_, rfl⟩
    rw [← hX]
    obtain ⟨hXV, hXK⟩ := puts_at [(0, .int .i64 1)] HV2.out
    have eX : puts w2 V [(0, .int .i64 1)] = X := hX.symm
    have hXz := puts_size [(0, .int .i64 1)] w2 V
    rw [eX] at hXV hXK hXz
    clear v0 v1 r0 r1 q0 q1 z0
    have hXV' : X.heap[V]? = some (.cells #[.int .i64 1, .int .i64 (jst a b)] 54 (0, 0)) := hXV
    have v0 := box_at hXV' (j := 0) rfl
    have v1 := box_at hXV' (j := 1) rfl
    have HRX := Lib.hid ((hXK.block R (by omega) (by simp; omega)).trans HR2.out)
    have HLX := Lib.hid (HL2.out.trans (hXK.below HL2.out.size (fun f hf => by rw [List.mem_singleton.1 hf]; omega)))
    have r0 := box_at HRX.out (j := 0) rfl
    have r1 := box_at HRX.out (j := 1) rfl
    have q0 := box_free HRX.out 0
    have q1 := box_free HRX.out 1
    clear hX eX hXV hXK hXV'
    go_wp2
    obtain ⟨hR, hK⟩ := puts_at [(0, .int .i64 1), (1, .int .i64 (jst a b))] HRX.out
    refine bodyPost_ret (results_c rfl _ _ _ _ _ _ _ rfl hR Try.underlying54 rfl (by kernel_rfl)) rfl ?_
    refine ⟨by rw [HJ.out]; rfl, HLX.out.trans (hK.below HLX.out.size (fun f hf => by rw [List.mem_singleton.1 hf]; omega))⟩
  go_wp2_with fail
  refine (one_late A B a b _ _ _ _ _ HA2.out HB2.out).mono ?_
  rintro e w3 ⟨rfl, hb3⟩
  have hs3 := hb3.size
  have HL3 := Lib.hid (HL2.out.trans (hb3.mono HL2.out.size))
  have HA3 := Lib.hid ((hb3.block A (by omega)).trans HA2.out)
  have HB3 := Lib.hid ((hb3.block B (by omega)).trans HB2.out)
  have HR3 := Lib.hid ((hb3.block R (by omega)).trans HR2.out)
  have HV3 := Lib.hid ((hb3.block V (by omega)).trans HV2.out)
  clear hb3
  cases hlate : (a.late || b.late)
  rotate_left
  · have HJ := Lib.hid (show judge a b p = 2 from by unfold judge; rw [if_neg (by simp [hbad]), if_pos hlate])
    have v0 := box_at HV3.out (j := 0) rfl
    have v1 := box_at HV3.out (j := 1) rfl
    have z0 := box_free HV3.out 0
    have r0 := box_at HR3.out (j := 0) rfl
    have r1 := box_at HR3.out (j := 1) rfl
    have q0 := box_free HR3.out 0
    have q1 := box_free HR3.out 1
    go_upto_region 13 with (fail)
    obtain ⟨X, hX⟩ : ∃ X, X = w3.setCell ⟨V, 0, none⟩ (.int .i64 2) := ⟨_, rfl⟩
    rw [← hX]
    obtain ⟨hXV, hXK⟩ := puts_at [(0, .int .i64 2)] HV3.out
    have eX : puts w3 V [(0, .int .i64 2)] = X := hX.symm
    have hXz := puts_size [(0, .int .i64 2)] w3 V
    rw [eX] at hXV hXK hXz
    clear v0 v1 r0 r1 q0 q1 z0
    have hXV' : X.heap[V]? = some (.cells #[.int .i64 2, .int .i64 (jst a b)] 54 (0, 0)) := hXV
    have v0 := box_at hXV' (j := 0) rfl
    have v1 := box_at hXV' (j := 1) rfl
    have HRX := Lib.hid ((hXK.block R (by omega) (by simp; omega)).trans HR3.out)
    have HLX := Lib.hid (HL3.out.trans (hXK.below HL3.out.size (fun f hf => by rw [List.mem_singleton.1 hf]; omega)))
    have r0 := box_at HRX.out (j := 0) rfl
    have r1 := box_at HRX.out (j := 1) rfl
    have q0 := box_free HRX.out 0
    have q1 := box_free HRX.out 1
    clear hX eX hXV hXK hXV'
    go_wp2
    obtain ⟨hR, hK⟩ := puts_at [(0, .int .i64 2), (1, .int .i64 (jst a b))] HRX.out
    refine bodyPost_ret (results_c rfl _ _ _ _ _ _ _ rfl hR Try.underlying54 rfl (by kernel_rfl)) rfl ?_
    refine ⟨by rw [HJ.out]; rfl, HLX.out.trans (hK.below HLX.out.size (fun f hf => by rw [List.mem_singleton.1 hf]; omega))⟩
  go_wp2_with fail
  refine (one_touch A B a b _ _ _ _ _ HA3.out HB3.out).mono ?_
  rintro e w4 ⟨rfl, hb4⟩
  have hs4 := hb4.size
  have HL4 := Lib.hid (HL3.out.trans (hb4.mono HL3.out.size))
  have HA4 := Lib.hid ((hb4.block A (by omega)).trans HA3.out)
  have HB4 := Lib.hid ((hb4.block B (by omega)).trans HB3.out)
  have HR4 := Lib.hid ((hb4.block R (by omega)).trans HR3.out)
  have HV4 := Lib.hid ((hb4.block V (by omega)).trans HV3.out)
  clear hb4
  cases htouch : (a.touch || b.touch)
  rotate_left
  · have HJ := Lib.hid (show judge a b p = 3 from by unfold judge; rw [if_neg (by simp [hbad]), if_neg (by simp [hlate]), if_pos htouch])
    have v0 := box_at HV4.out (j := 0) rfl
    have v1 := box_at HV4.out (j := 1) rfl
    have z0 := box_free HV4.out 0
    have r0 := box_at HR4.out (j := 0) rfl
    have r1 := box_at HR4.out (j := 1) rfl
    have q0 := box_free HR4.out 0
    have q1 := box_free HR4.out 1
    go_upto_region 13 with (fail)
    obtain ⟨X, hX⟩ : ∃ X, X = w4.setCell ⟨V, 0, none⟩ (.int .i64 3) := ⟨_, rfl⟩
    rw [← hX]
    obtain ⟨hXV, hXK⟩ := puts_at [(0, .int .i64 3)] HV4.out
    have eX : puts w4 V [(0, .int .i64 3)] = X := hX.symm
    have hXz := puts_size [(0, .int .i64 3)] w4 V
    rw [eX] at hXV hXK hXz
    clear v0 v1 r0 r1 q0 q1 z0
    have hXV' : X.heap[V]? = some (.cells #[.int .i64 3, .int .i64 (jst a b)] 54 (0, 0)) := hXV
    have v0 := box_at hXV' (j := 0) rfl
    have v1 := box_at hXV' (j := 1) rfl
    have HRX := Lib.hid ((hXK.block R (by omega) (by simp; omega)).trans HR4.out)
    have HLX := Lib.hid (HL4.out.trans (hXK.below HL4.out.size (fun f hf => by rw [List.mem_singleton.1 hf]; omega)))
    have r0 := box_at HRX.out (j := 0) rfl
    have r1 := box_at HRX.out (j := 1) rfl
    have q0 := box_free HRX.out 0
    have q1 := box_free HRX.out 1
    clear hX eX hXV hXK hXV'
    go_wp2
    obtain ⟨hR, hK⟩ := puts_at [(0, .int .i64 3), (1, .int .i64 (jst a b))] HRX.out
    refine bodyPost_ret (results_c rfl _ _ _ _ _ _ _ rfl hR Try.underlying54 rfl (by kernel_rfl)) rfl ?_
    refine ⟨by rw [HJ.out]; rfl, HLX.out.trans (hK.below HLX.out.size (fun f hf => by rw [List.mem_singleton.1 hf]; omega))⟩
  cases p
  · have HJ := Lib.hid (show judge a b false = 4 from by unfold judge; rw [if_neg (by simp [hbad]), if_neg (by simp [hlate]), if_neg (by simp [htouch]), if_pos rfl])
    have v0 := box_at HV4.out (j := 0) rfl
    have v1 := box_at HV4.out (j := 1) rfl
    have z0 := box_free HV4.out 0
    have r0 := box_at HR4.out (j := 0) rfl
    have r1 := box_at HR4.out (j := 1) rfl
    have q0 := box_free HR4.out 0
    have q1 := box_free HR4.out 1
    go_upto_region 13 with (fail)
    obtain ⟨X, hX⟩ : ∃ X, X = w4.setCell ⟨V, 0, none⟩ (.int .i64 4) := ⟨_, rfl⟩
    rw [← hX]
    obtain ⟨hXV, hXK⟩ := puts_at [(0, .int .i64 4)] HV4.out
    have eX : puts w4 V [(0, .int .i64 4)] = X := hX.symm
    have hXz := puts_size [(0, .int .i64 4)] w4 V
    rw [eX] at hXV hXK hXz
    clear v0 v1 r0 r1 q0 q1 z0
    have hXV' : X.heap[V]? = some (.cells #[.int .i64 4, .int .i64 (jst a b)] 54 (0, 0)) := hXV
    have v0 := box_at hXV' (j := 0) rfl
    have v1 := box_at hXV' (j := 1) rfl
    have HRX := Lib.hid ((hXK.block R (by omega) (by simp; omega)).trans HR4.out)
    have HLX := Lib.hid (HL4.out.trans (hXK.below HL4.out.size (fun f hf => by rw [List.mem_singleton.1 hf]; omega)))
    have r0 := box_at HRX.out (j := 0) rfl
    have r1 := box_at HRX.out (j := 1) rfl
    have q0 := box_free HRX.out 0
    have q1 := box_free HRX.out 1
    clear hX eX hXV hXK hXV'
    go_wp2
    obtain ⟨hR, hK⟩ := puts_at [(0, .int .i64 4), (1, .int .i64 (jst a b))] HRX.out
    refine bodyPost_ret (results_c rfl _ _ _ _ _ _ _ rfl hR Try.underlying54 rfl (by kernel_rfl)) rfl ?_
    refine ⟨by rw [HJ.out]; rfl, HLX.out.trans (hK.below HLX.out.size (fun f hf => by rw [List.mem_singleton.1 hf]; omega))⟩
  have a0 := box_at HA4.out (j := 0) rfl
  have a1 := box_at HA4.out (j := 1) rfl
  have a2 := box_at HA4.out (j := 2) rfl
  have a3 := box_at HA4.out (j := 3) rfl
  have a4 := box_at HA4.out (j := 4) rfl
  have b0 := box_at HB4.out (j := 0) rfl
  have b1 := box_at HB4.out (j := 1) rfl
  have b2 := box_at HB4.out (j := 2) rfl
  have b3 := box_at HB4.out (j := 3) rfl
  have b4 := box_at HB4.out (j := 4) rfl
  go_wp2_with fail
  refine (bequal_any F a.im b.im _ _ _ (Raw.below HI1.out HL4.out) (Raw.below HI2.out HL4.out)).mono ?_
  rintro e w5 ⟨rfl, rfl⟩
  by_cases him : a.im = b.im
  · rw [decide_eq_true him]
    go_wp2_with fail
    refine (bequal_any F a.ef b.ef _ _ _ (Raw.below HE1.out HL4.out) (Raw.below HE2.out HL4.out)).mono ?_
    rintro e w6 ⟨rfl, rfl⟩
    clear a0 a1 a2 a3 a4 b0 b1 b2 b3 b4
    by_cases hef : a.ef = b.ef
    · rw [decide_eq_true hef]
      have HJ := Lib.hid (show judge a b true = 0 from by unfold judge; rw [if_neg (by simp [hbad]), if_neg (by simp [hlate]), if_neg (by simp [htouch]), if_neg (by simp), if_pos ⟨him, hef⟩])
      have v0 := box_at HV4.out (j := 0) rfl
      have v1 := box_at HV4.out (j := 1) rfl
      have z0 := box_free HV4.out 0
      have r0 := box_at HR4.out (j := 0) rfl
      have r1 := box_at HR4.out (j := 1) rfl
      have q0 := box_free HR4.out 0
      have q1 := box_free HR4.out 1
      go_wp2
      obtain ⟨hR, hK⟩ := puts_at [(0, .int .i64 0), (1, .int .i64 (jst a b))] HR4.out
      refine bodyPost_ret (results_c rfl _ _ _ _ _ _ _ rfl hR Try.underlying54 rfl (by kernel_rfl)) rfl ?_
      refine ⟨by rw [HJ.out]; rfl, HL4.out.trans (hK.below HL4.out.size (fun f hf => by rw [List.mem_singleton.1 hf]; omega))⟩
    · rw [decide_eq_false hef]
      have HJ := Lib.hid (show judge a b true = 5 from by unfold judge; rw [if_neg (by simp [hbad]), if_neg (by simp [hlate]), if_neg (by simp [htouch]), if_neg (by simp), if_neg (fun h => hef h.2)])
      have v0 := box_at HV4.out (j := 0) rfl
      have v1 := box_at HV4.out (j := 1) rfl
      have z0 := box_free HV4.out 0
      have r0 := box_at HR4.out (j := 0) rfl
      have r1 := box_at HR4.out (j := 1) rfl
      have q0 := box_free HR4.out 0
      have q1 := box_free HR4.out 1
      go_upto_region 13 with (fail)
      obtain ⟨X, hX⟩ : ∃ X, X = w4.setCell ⟨V, 0, none⟩ (.int .i64 5) := ⟨_, rfl⟩
      rw [← hX]
      obtain ⟨hXV, hXK⟩ := puts_at [(0, .int .i64 5)] HV4.out
      have eX : puts w4 V [(0, .int .i64 5)] = X := hX.symm
      have hXz := puts_size [(0, .int .i64 5)] w4 V
      rw [eX] at hXV hXK hXz
      clear v0 v1 r0 r1 q0 q1 z0
      have hXV' : X.heap[V]? = some (.cells #[.int .i64 5, .int .i64 (jst a b)] 54 (0, 0)) := hXV
      have v0 := box_at hXV' (j := 0) rfl
      have v1 := box_at hXV' (j := 1) rfl
      have HRX := Lib.hid ((hXK.block R (by omega) (by simp; omega)).trans HR4.out)
      have HLX := Lib.hid (HL4.out.trans (hXK.below HL4.out.size (fun f hf => by rw [List.mem_singleton.1 hf]; omega)))
      have r0 := box_at HRX.out (j := 0) rfl
      have r1 := box_at HRX.out (j := 1) rfl
      have q0 := box_free HRX.out 0
      have q1 := box_free HRX.out 1
      clear hX eX hXV hXK hXV'
      go_wp2
      obtain ⟨hR, hK⟩ := puts_at [(0, .int .i64 5), (1, .int .i64 (jst a b))] HRX.out
      refine bodyPost_ret (results_c rfl _ _ _ _ _ _ _ rfl hR Try.underlying54 rfl (by kernel_rfl)) rfl ?_
      refine ⟨by rw [HJ.out]; rfl, HLX.out.trans (hK.below HLX.out.size (fun f hf => by rw [List.mem_singleton.1 hf]; omega))⟩
  · rw [decide_eq_false him]
    clear a0 a1 a2 a3 a4 b0 b1 b2 b3 b4
    have HJ := Lib.hid (show judge a b true = 5 from by unfold judge; rw [if_neg (by simp [hbad]), if_neg (by simp [hlate]), if_neg (by simp [htouch]), if_neg (by simp), if_neg (fun h => him h.1)])
    have v0 := box_at HV4.out (j := 0) rfl
    have v1 := box_at HV4.out (j := 1) rfl
    have z0 := box_free HV4.out 0
    have r0 := box_at HR4.out (j := 0) rfl
    have r1 := box_at HR4.out (j := 1) rfl
    have q0 := box_free HR4.out 0
    have q1 := box_free HR4.out 1
    go_upto_region 13 with (fail)
    obtain ⟨X, hX⟩ : ∃ X, X = w4.setCell ⟨V, 0, none⟩ (.int .i64 5) := ⟨_, rfl⟩
    rw [← hX]
    obtain ⟨hXV, hXK⟩ := puts_at [(0, .int .i64 5)] HV4.out
    have eX : puts w4 V [(0, .int .i64 5)] = X := hX.symm
    have hXz := puts_size [(0, .int .i64 5)] w4 V
    rw [eX] at hXV hXK hXz
    clear v0 v1 r0 r1 q0 q1 z0
    have hXV' : X.heap[V]? = some (.cells #[.int .i64 5, .int .i64 (jst a b)] 54 (0, 0)) := hXV
    have v0 := box_at hXV' (j := 0) rfl
    have v1 := box_at hXV' (j := 1) rfl
    have HRX := Lib.hid ((hXK.block R (by omega) (by simp; omega)).trans HR4.out)
    have HLX := Lib.hid (HL4.out.trans (hXK.below HL4.out.size (fun f hf => by rw [List.mem_singleton.1 hf]; omega)))
    have r0 := box_at HRX.out (j := 0) rfl
    have r1 := box_at HRX.out (j := 1) rfl
    have q0 := box_free HRX.out 0
    have q1 := box_free HRX.out 1
    clear hX eX hXV hXK hXV'
    go_wp2
    obtain ⟨hR, hK⟩ := puts_at [(0, .int .i64 5), (1, .int .i64 (jst a b))] HRX.out
    refine bodyPost_ret (results_c rfl _ _ _ _ _ _ _ rfl hR Try.underlying54 rfl (by kernel_rfl)) rfl ?_
    refine ⟨by rw [HJ.out]; rfl, HLX.out.trans (hK.below HLX.out.size (fun f hf => by rw [List.mem_singleton.1 hf]; omega))⟩
end Go.Proofs.Ytbpifaamlcjocaa
