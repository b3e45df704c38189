/- time: TimeEncode -/
import Derived.Test.YtdelemmoiaiooaaVa
namespace Go.Proofs.Ytdelemmoiaiooaa
open Go.RowKit Go.Bs Go.Cl Go.Rw Go.Ti Go.Wi
set_option maxRecDepth 100000 in
set_option maxHeartbeats 8000000 in
theorem encodelaw_any (lv bv : Value) (l : List Int) (b : List UInt8) (w : World) (hL : SlT w lv l) (hB : Bytes [] w bv b) :
    Calls Try.prog 4 #[.agg #[lv], bv] w (RetOK w) := by
  obtain ⟨la, lc, rfl⟩ := Raw.slice hL
  obtain ⟨ba, bc, rfl⟩ := Raw.slice hB
  obtain ⟨w1, hw1⟩ : ∃ W, W = w.alloc (.cells #[.slice la l.length lc] 24) := ⟨_, rfl⟩
  have bel1 : Below w.heap.size w w1 := by rw [hw1]; exact (Below.refl w.heap.size w).alloc (by simp) _
  have hx0 : w1.heap[w.heap.size]? = some (.cells #[.slice la l.length lc] 24 (0, 0)) := by rw [hw1]; exact a1_0 _ _ _
  obtain ⟨X, hX⟩ : ∃ M, M = w.heap.size := ⟨_, rfl⟩
  rw [← hX] at hx0
  have HX1 := Lib.hid (hx0)
  have HRX := Lib.hid hX
  have HW := Lib.hid hw1
  clear hw1 hx0 hX
  have hL1 := hL.below bel1
  have HL1 := Lib.hid (hL1)
  clear hL hL1
  have hB1 := Raw.below hB bel1
  have HB1 := Lib.hid (hB1)
  clear hB hB1
  go_enter Try.func4, Try.ntmps4
  go_upto_region 1 with (fail)
  rw [← HW.out, ← HRX.out]
  clear HW HRX
  go_wp2_with fail
  refine (awake_any _).mono ?_
  rintro e w2 ⟨rfl, hb2⟩
  have HX2 := Lib.hid ((hb2.block X (Array.getElem?_eq_some_iff.1 HX1.out).1).trans HX1.out)
  have HL2 := Lib.hid (SlT.below HL1.out hb2)
  have HB2 := Lib.hid (Raw.below HB1.out hb2)
  clear HX1 HL1 HB1
  have bel2 := bel1.trans (hb2.mono bel1.size)
  by_cases hc : l.length ≤ 60
  rotate_left
  · have cX_0 := box_at HX2.out (j := 0) rfl
    have hc' : (60 : Int) < (l.length : Int) := by omega
    go_wp2
    go_ret
    exact ⟨rfl, bel2⟩
  have Hcl := Lib.hid hc
  have hpl : (l.length : Int) ≤ 60 := by omega
  clear hc
  by_cases hc : b.length ≤ 300
  rotate_left
  · have cX_0 := box_at HX2.out (j := 0) rfl
    have hc' : (300 : Int) < (b.length : Int) := by omega
    go_wp2
    go_ret
    exact ⟨rfl, bel2⟩
  have Hcb := Lib.hid hc
  have hpb : (b.length : Int) ≤ 300 := by omega
  clear hc
  have cX_0 := box_at HX2.out (j := 0) rfl
  obtain ⟨O, hO⟩ : ∃ O, O = w2.heap.size := ⟨_, rfl⟩
  obtain ⟨w3, hw3⟩ : ∃ W, W = w2.alloc (.cells #[.slice la l.length lc] 37) := ⟨_, rfl⟩
  have hb3 : Below w2.heap.size w2 w3 := by rw [hw3]; exact (Below.refl _ _).alloc (Nat.le_refl _) _
  have hxO : w3.heap[O]? = some (.cells #[.slice la l.length lc] 37 (0, 0)) := by rw [hw3, hO]; exact heap_alloc_new w2 _
  have HW3 := Lib.hid hw3
  have HRO := Lib.hid hO
  clear hw3 hO
  go_upto_region 6 with (fail)
  rw [← HW3.out, ← HRO.out]
  clear HW3 HRO
  clear cX_0
  have HX3 := Lib.hid ((hb3.block X (Array.getElem?_eq_some_iff.1 HX2.out).1).trans HX2.out)
  have HL3 := Lib.hid (SlT.below HL2.out hb3)
  have HB3 := Lib.hid (Raw.below HB2.out hb3)
  clear HX2 HL2 HB2
  have bel3 := bel2.trans (hb3.mono bel2.size)
  have HO3 := Lib.hid (hxO)
  clear hb3 hxO
  have cX_0 := box_at HX3.out (j := 0) rfl
  have cO_0 := box_at HO3.out (j := 0) rfl
  go_wp2_with fail
  refine (encode_any _ l _ (by have := Hcl.out; omega) HL3.out).mono ?_
  rintro e w4 ⟨v4, rfl, hr4, hb4⟩
  clear cX_0 cO_0
  have HX4 := Lib.hid ((hb4.block X (Array.getElem?_eq_some_iff.1 HX3.out).1).trans HX3.out)
  have HL4 := Lib.hid (SlT.below HL3.out hb4)
  have HB4 := Lib.hid (Raw.below HB3.out hb4)
  have HO4 := Lib.hid ((hb4.block O (Array.getElem?_eq_some_iff.1 HO3.out).1).trans HO3.out)
  clear HX3 HL3 HB3 HO3
  have bel4 := bel3.trans (hb4.mono bel3.size)
  have HC4 := Lib.hid (RetB.raw hr4)
  obtain ⟨a4, c4, rfl⟩ := own_slice hr4
  clear hr4 hb4
  go_upto_region 7 with (fail)
  have HBL4 : Hid (∀ q ∈ [X], ∃ cc e f, w4.heap[q]? = some (.cells cc e f)) := Lib.hid (by
    intro q hq
    simp only [List.mem_cons, List.not_mem_nil, or_false] at hq
    rcases hq with rfl <;> first | exact ⟨_, _, _, HX4.out⟩)
  have hBl := show ∀ q ∈ [X], ∃ cc e f, w4.heap[q]? = some (.cells cc e f) from HBL4.out
  clear HBL4
  refine Txt.Ty.wp_tree [X] [2] [] [0, 2, 7] [0, 2] (.alt [1] (.alt [3, 4, 5, 6, 7] (.alt [8] (.alt [9, 10, 11] (.done) (.no)) (.no)) (.no)) (.no)) (by kernel_rfl) (by kernel_rfl) (by kernel_rfl) (by kernel_rfl) hBl ?_
  obtain ⟨w5, hwd⟩ : ∃ y, y = w4.drew := ⟨_, rfl⟩
  have HS5 : Hid (Txt.SameB [X] w5 w5) := Lib.hid (by rw [hwd]; exact same_start hBl)
  clear hBl
  rw [← hwd]
  have hdr : Below w4.heap.size w4 w5 := by rw [hwd]; exact (Below.refl _ _).drew
  have HX5 := Lib.hid ((hdr.block X (Array.getElem?_eq_some_iff.1 HX4.out).1).trans HX4.out)
  have HL5 := Lib.hid (SlT.below HL4.out hdr)
  have HB5 := Lib.hid (Raw.below HB4.out hdr)
  have HO5 := Lib.hid ((hdr.block O (Array.getElem?_eq_some_iff.1 HO4.out).1).trans HO4.out)
  have HC5 := Lib.hid (Raw.below HC4.out hdr)
  clear HX4 HL4 HB4 HO4 HC4
  have bel5 := bel4.trans (hdr.mono bel4.size)
  clear hdr hwd
  have cX_0 := box_at HX5.out (j := 0) rfl
  have cO_0 := box_at HO5.out (j := 0) rfl
  (try simp only [Txt.pick, List.getElem?_cons_succ, List.getElem?_cons_zero])
  go_wp2
  refine Txt.RunPost.mk ?_
  refine Txt.Ty.wpTr_alt ?_ Txt.Ty.wpTr_no
  (try simp only [Txt.pick, List.getElem?_cons_succ, List.getElem?_cons_zero])
  go_wp2_with fail
  refine (valid_any _ l _ (by have := Hcl.out; omega) HL5.out).mono ?_
  rintro e w6 ⟨rfl, hb6⟩
  clear cX_0 cO_0
  have HX6 := Lib.hid ((hb6.block X (Array.getElem?_eq_some_iff.1 HX5.out).1).trans HX5.out)
  have HL6 := Lib.hid (SlT.below HL5.out hb6)
  have HB6 := Lib.hid (Raw.below HB5.out hb6)
  have HO6 := Lib.hid ((hb6.block O (Array.getElem?_eq_some_iff.1 HO5.out).1).trans HO5.out)
  have HC6 := Lib.hid (Raw.below HC5.out hb6)
  clear HX5 HL5 HB5 HO5 HC5
  have bel6 := bel5.trans (hb6.mono bel5.size)
  have HS6 := Lib.hid (same_below' HS5.out hb6)
  have cX_0 := box_at HX6.out (j := 0) rfl
  have cO_0 := box_at HO6.out (j := 0) rfl
  go_wp2
  refine Txt.SegPost.mk (Txt.Ty.Shown.same HS6.out) ?_
  (try simp only [Txt.pick, List.getElem?_cons_succ, List.getElem?_cons_zero])
  go_wp2
  refine Txt.RunPost.mk ?_
  refine Txt.Ty.wpTr_alt ?_ Txt.Ty.wpTr_no
  (try simp only [Txt.pick, List.getElem?_cons_succ, List.getElem?_cons_zero])
  go_wp2_with fail
  refine (rvalid_any _ l _ (by have := Hcl.out; omega) HL6.out).mono ?_
  rintro e w7 ⟨rfl, hb7⟩
  clear cX_0 cO_0
  have HX7 := Lib.hid ((hb7.block X (Array.getElem?_eq_some_iff.1 HX6.out).1).trans HX6.out)
  have HL7 := Lib.hid (SlT.below HL6.out hb7)
  have HB7 := Lib.hid (Raw.below HB6.out hb7)
  have HO7 := Lib.hid ((hb7.block O (Array.getElem?_eq_some_iff.1 HO6.out).1).trans HO6.out)
  have HC7 := Lib.hid (Raw.below HC6.out hb7)
  clear HX6 HL6 HB6 HO6 HC6
  have bel7 := bel6.trans (hb7.mono bel6.size)
  have HS7 := Lib.hid (same_below' HS6.out hb7)
  have cX_0 := box_at HX7.out (j := 0) rfl
  have cO_0 := box_at HO7.out (j := 0) rfl
  go_wp2
  refine Txt.SegPost.mk (Txt.Ty.Shown.same HS7.out) ?_
  (try simp only [Txt.pick, List.getElem?_cons_succ, List.getElem?_cons_zero])
  go_wp2
  refine Txt.RunPost.mk ?_
  refine Txt.Ty.wpTr_alt ?_ Txt.Ty.wpTr_no
  (try simp only [Txt.pick, List.getElem?_cons_succ, List.getElem?_cons_zero])
  go_wp2_with fail
  refine (rencode_any _ l _ (by have := Hcl.out; omega) HL7.out).mono ?_
  rintro e w8 ⟨v8, rfl, hr8, hb8⟩
  clear cX_0 cO_0
  have HX8 := Lib.hid ((hb8.block X (Array.getElem?_eq_some_iff.1 HX7.out).1).trans HX7.out)
  have HL8 := Lib.hid (SlT.below HL7.out hb8)
  have HB8 := Lib.hid (Raw.below HB7.out hb8)
  have HO8 := Lib.hid ((hb8.block O (Array.getElem?_eq_some_iff.1 HO7.out).1).trans HO7.out)
  have HC8 := Lib.hid (Raw.below HC7.out hb8)
  clear HX7 HL7 HB7 HO7 HC7
  have bel8 := bel7.trans (hb8.mono bel7.size)
  have HS8 := Lib.hid (same_below' HS7.out hb8)
  have HR8 := Lib.hid (RetB.raw hr8)
  obtain ⟨a8, c8, rfl⟩ := own_slice hr8
  clear hr8 hb8
  have cX_0 := box_at HX8.out (j := 0) rfl
  have cO_0 := box_at HO8.out (j := 0) rfl
  go_wp2
  refine Txt.SegPost.mk (Txt.Ty.Shown.same HS8.out) ?_
  (try simp only [Txt.pick, List.getElem?_cons_succ, List.getElem?_cons_zero])
  go_wp2
  refine Txt.RunPost.mk ?_
  refine Txt.Ty.wpTr_alt ?_ Txt.Ty.wpTr_no
  (try simp only [Txt.pick, List.getElem?_cons_succ, List.getElem?_cons_zero])
  go_wp2_with fail
  refine (same_any _ _ _ _ _ HC8.out HR8.out).mono ?_
  rintro e w' ⟨rfl, rfl⟩
  simp only [decide_true]
  go_wp2
  refine Txt.SegPost.mk (Txt.Ty.Shown.same HS8.out) ?_
  (try simp only [Txt.pick, List.getElem?_cons_succ, List.getElem?_cons_zero])
  go_wp2
  refine Txt.RunPost.mk ?_
  refine Txt.Ty.wpTr_done (by rfl) ⟨.head _, trivial⟩ ?_
  obtain ⟨V, hV⟩ : ∃ V, validT l = V := ⟨_, rfl⟩
  rw [hV]
  have HV := Lib.hid hV
  clear hV
  cases V with
  | true =>
    clear HR8
    go_wp2_with fail
    refine (decode_any _ (Ti.encS l) _ HC8.out (Nat.le_trans encS_len (by decide))).mono ?_
    rw [decT_encS, HV.out]
    simp only [if_true]
    rintro e w9 ⟨v9, rfl, hr9, hb9⟩
    clear cX_0 cO_0
    have HX9 := Lib.hid ((hb9.block X (Array.getElem?_eq_some_iff.1 HX8.out).1).trans HX8.out)
    have HL9 := Lib.hid (SlT.below HL8.out hb9)
    have HB9 := Lib.hid (Raw.below HB8.out hb9)
    have HO9 := Lib.hid ((hb9.block O (Array.getElem?_eq_some_iff.1 HO8.out).1).trans HO8.out)
    have HC9 := Lib.hid (Raw.below HC8.out hb9)
    clear HX8 HL8 HB8 HO8 HC8
    have bel9 := bel8.trans (hb9.mono bel8.size)
    have HV9_9 := Lib.hid (SlT.of_own hr9)
    obtain ⟨da9, dc9, rfl⟩ := own_slice hr9
    clear hr9 hb9
    obtain ⟨P, hP⟩ : ∃ O, O = w9.heap.size := ⟨_, rfl⟩
    obtain ⟨w10, hw10⟩ : ∃ W, W = w9.alloc (.cells #[.slice da9 l.length dc9] 37) := ⟨_, rfl⟩
    have hb10 : Below w9.heap.size w9 w10 := by rw [hw10]; exact (Below.refl _ _).alloc (Nat.le_refl _) _
    have hxP : w10.heap[P]? = some (.cells #[.slice da9 l.length dc9] 37 (0, 0)) := by rw [hw10, hP]; exact heap_alloc_new w9 _
    have HW10 := Lib.hid hw10
    have HRP := Lib.hid hP
    clear hw10 hP
    go_upto_region 10 with (fail)
    rw [← HW10.out, ← HRP.out]
    clear HW10 HRP
    have HX10 := Lib.hid ((hb10.block X (Array.getElem?_eq_some_iff.1 HX9.out).1).trans HX9.out)
    have HL10 := Lib.hid (SlT.below HL9.out hb10)
    have HB10 := Lib.hid (Raw.below HB9.out hb10)
    have HO10 := Lib.hid ((hb10.block O (Array.getElem?_eq_some_iff.1 HO9.out).1).trans HO9.out)
    have HC10 := Lib.hid (Raw.below HC9.out hb10)
    have HV9_10 := Lib.hid (SlT.below HV9_9.out hb10)
    clear HX9 HL9 HB9 HO9 HC9 HV9_9
    have bel10 := bel9.trans (hb10.mono bel9.size)
    have HP10 := Lib.hid (hxP)
    clear hb10 hxP
    have cX_0 := box_at HX10.out (j := 0) rfl
    have cP_0 := box_at HP10.out (j := 0) rfl
    go_wp2_with fail
    refine (rvalid_any _ l _ (by have := Hcl.out; omega) HL10.out).mono ?_
    rintro e w11 ⟨rfl, hb11⟩
    clear cX_0 cP_0
    have HX11 := Lib.hid ((hb11.block X (Array.getElem?_eq_some_iff.1 HX10.out).1).trans HX10.out)
    have HL11 := Lib.hid (SlT.below HL10.out hb11)
    have HB11 := Lib.hid (Raw.below HB10.out hb11)
    have HO11 := Lib.hid ((hb11.block O (Array.getElem?_eq_some_iff.1 HO10.out).1).trans HO10.out)
    have HC11 := Lib.hid (Raw.below HC10.out hb11)
    have HV9_11 := Lib.hid (SlT.below HV9_10.out hb11)
    have HP11 := Lib.hid ((hb11.block P (Array.getElem?_eq_some_iff.1 HP10.out).1).trans HP10.out)
    clear HX10 HL10 HB10 HO10 HC10 HV9_10 HP10
    have bel11 := bel10.trans (hb11.mono bel10.size)
    have cX_0 := box_at HX11.out (j := 0) rfl
    have cP_0 := box_at HP11.out (j := 0) rfl
    rw [HV.out]
    go_wp2_with fail
    refine (sameints_any _ _ l l _ (by have := Hcl.out; omega) (by have := Hcl.out; omega) HV9_11.out HL11.out).mono ?_
    rintro e w12 ⟨rfl, hb12⟩
    clear cX_0 cP_0
    have HX12 := Lib.hid ((hb12.block X (Array.getElem?_eq_some_iff.1 HX11.out).1).trans HX11.out)
    have HL12 := Lib.hid (SlT.below HL11.out hb12)
    have HB12 := Lib.hid (Raw.below HB11.out hb12)
    have HO12 := Lib.hid ((hb12.block O (Array.getElem?_eq_some_iff.1 HO11.out).1).trans HO11.out)
    have HC12 := Lib.hid (Raw.below HC11.out hb12)
    have HV9_12 := Lib.hid (SlT.below HV9_11.out hb12)
    have HP12 := Lib.hid ((hb12.block P (Array.getElem?_eq_some_iff.1 HP11.out).1).trans HP11.out)
    clear HX11 HL11 HB11 HO11 HC11 HV9_11 HP11
    have bel12 := bel11.trans (hb12.mono bel11.size)
    simp only [decide_true]
    obtain ⟨DD, hDD⟩ : ∃ DD, decT b = DD := ⟨_, rfl⟩
    have hdc := dec_cases b
    have hdl := dec_len b
    rw [hDD] at hdc hdl
    have HDD := Lib.hid hDD
    clear hDD
    obtain ⟨x, c⟩ := DD
    simp only at hdc hdl
    have HDC : Hid ((c = 0 ∧ encIs x = b ∧ validT x = true) ∨ (x = [] ∧ c = 4)) := Lib.hid (by
      rcases hdc with h | h
      · exact .inl h
      · right; injection h with h1 h2; exact ⟨h1, h2⟩)
    clear hdc

    go_wp2_with fail
    refine (decode_any _ b _ HB12.out (by omega)).mono ?_
    rw [HDD.out]
    rintro e w13 ⟨v13, rfl, hr13, hb13⟩
    have HX13 := Lib.hid ((hb13.block X (Array.getElem?_eq_some_iff.1 HX12.out).1).trans HX12.out)
    have HL13 := Lib.hid (SlT.below HL12.out hb13)
    have HB13 := Lib.hid (Raw.below HB12.out hb13)
    have HO13 := Lib.hid ((hb13.block O (Array.getElem?_eq_some_iff.1 HO12.out).1).trans HO12.out)
    have HC13 := Lib.hid (Raw.below HC12.out hb13)
    have HV9_13 := Lib.hid (SlT.below HV9_12.out hb13)
    have HP13 := Lib.hid ((hb13.block P (Array.getElem?_eq_some_iff.1 HP12.out).1).trans HP12.out)
    clear HX12 HL12 HB12 HO12 HC12 HV9_12 HP12
    have bel13 := bel12.trans (hb13.mono bel12.size)
    have HV13_13 := Lib.hid (SlT.of_own hr13)
    obtain ⟨da13, dc13, rfl⟩ := own_slice hr13
    clear hr13 hb13
    obtain ⟨Q, hQ⟩ : ∃ O, O = w13.heap.size := ⟨_, rfl⟩
    obtain ⟨w14, hw14⟩ : ∃ W, W = w13.alloc (.cells #[.slice da13 x.length dc13] 37) := ⟨_, rfl⟩
    have hb14 : Below w13.heap.size w13 w14 := by rw [hw14]; exact (Below.refl _ _).alloc (Nat.le_refl _) _
    have hxQ : w14.heap[Q]? = some (.cells #[.slice da13 x.length dc13] 37 (0, 0)) := by rw [hw14, hQ]; exact heap_alloc_new w13 _
    have HW14 := Lib.hid hw14
    have HRQ := Lib.hid hQ
    clear hw14 hQ
    go_upto_region 13 with (fail)
    rw [← HW14.out, ← HRQ.out]
    clear HW14 HRQ
    have HX14 := Lib.hid ((hb14.block X (Array.getElem?_eq_some_iff.1 HX13.out).1).trans HX13.out)
    have HL14 := Lib.hid (SlT.below HL13.out hb14)
    have HB14 := Lib.hid (Raw.below HB13.out hb14)
    have HO14 := Lib.hid ((hb14.block O (Array.getElem?_eq_some_iff.1 HO13.out).1).trans HO13.out)
    have HC14 := Lib.hid (Raw.below HC13.out hb14)
    have HV9_14 := Lib.hid (SlT.below HV9_13.out hb14)
    have HP14 := Lib.hid ((hb14.block P (Array.getElem?_eq_some_iff.1 HP13.out).1).trans HP13.out)
    have HV13_14 := Lib.hid (SlT.below HV13_13.out hb14)
    clear HX13 HL13 HB13 HO13 HC13 HV9_13 HP13 HV13_13
    have bel14 := bel13.trans (hb14.mono bel13.size)
    have HQ14 := Lib.hid (hxQ)
    clear hb14 hxQ
    have cX_0 := box_at HX14.out (j := 0) rfl
    have cQ_0 := box_at HQ14.out (j := 0) rfl
    go_wp2_with fail
    refine (rdecode_any _ b _ HB14.out (by omega)).mono ?_
    rw [HDD.out]
    rintro e w15 ⟨v15, rfl, hr15, hb15⟩
    clear cX_0 cQ_0
    have HX15 := Lib.hid ((hb15.block X (Array.getElem?_eq_some_iff.1 HX14.out).1).trans HX14.out)
    have HL15 := Lib.hid (SlT.below HL14.out hb15)
    have HB15 := Lib.hid (Raw.below HB14.out hb15)
    have HO15 := Lib.hid ((hb15.block O (Array.getElem?_eq_some_iff.1 HO14.out).1).trans HO14.out)
    have HC15 := Lib.hid (Raw.below HC14.out hb15)
    have HV9_15 := Lib.hid (SlT.below HV9_14.out hb15)
    have HP15 := Lib.hid ((hb15.block P (Array.getElem?_eq_some_iff.1 HP14.out).1).trans HP14.out)
    have HV13_15 := Lib.hid (SlT.below HV13_14.out hb15)
    have HQ15 := Lib.hid ((hb15.block Q (Array.getElem?_eq_some_iff.1 HQ14.out).1).trans HQ14.out)
    clear HX14 HL14 HB14 HO14 HC14 HV9_14 HP14 HV13_14 HQ14
    have bel15 := bel14.trans (hb15.mono bel14.size)
    have HV15_15 := Lib.hid (SlT.of_own hr15)
    obtain ⟨da15, dc15, rfl⟩ := own_slice hr15
    clear hr15 hb15
    obtain ⟨S, hS⟩ : ∃ O, O = w15.heap.size := ⟨_, rfl⟩
    obtain ⟨w16, hw16⟩ : ∃ W, W = w15.alloc (.cells #[.slice da15 x.length dc15] 24) := ⟨_, rfl⟩
    have hb16 : Below w15.heap.size w15 w16 := by rw [hw16]; exact (Below.refl _ _).alloc (Nat.le_refl _) _
    have hxS : w16.heap[S]? = some (.cells #[.slice da15 x.length dc15] 24 (0, 0)) := by rw [hw16, hS]; exact heap_alloc_new w15 _
    have HW16 := Lib.hid hw16
    have HRS := Lib.hid hS
    clear hw16 hS
    go_upto_region 14 with (fail)
    rw [← HW16.out, ← HRS.out]
    clear HW16 HRS
    have HX16 := Lib.hid ((hb16.block X (Array.getElem?_eq_some_iff.1 HX15.out).1).trans HX15.out)
    have HL16 := Lib.hid (SlT.below HL15.out hb16)
    have HB16 := Lib.hid (Raw.below HB15.out hb16)
    have HO16 := Lib.hid ((hb16.block O (Array.getElem?_eq_some_iff.1 HO15.out).1).trans HO15.out)
    have HC16 := Lib.hid (Raw.below HC15.out hb16)
    have HV9_16 := Lib.hid (SlT.below HV9_15.out hb16)
    have HP16 := Lib.hid ((hb16.block P (Array.getElem?_eq_some_iff.1 HP15.out).1).trans HP15.out)
    have HV13_16 := Lib.hid (SlT.below HV13_15.out hb16)
    have HQ16 := Lib.hid ((hb16.block Q (Array.getElem?_eq_some_iff.1 HQ15.out).1).trans HQ15.out)
    have HV15_16 := Lib.hid (SlT.below HV15_15.out hb16)
    clear HX15 HL15 HB15 HO15 HC15 HV9_15 HP15 HV13_15 HQ15 HV15_15
    have bel16 := bel15.trans (hb16.mono bel15.size)
    have HS16 := Lib.hid (hxS)
    clear hb16 hxS
    have cQ_0 := box_at HQ16.out (j := 0) rfl
    have cS_0 := box_at HS16.out (j := 0) rfl
    have ecc : (c == c) = true := by simp
    go_wp2_with fail
    refine (sameints_any _ _ x x _ (by omega) (by omega) HV13_16.out HV15_16.out).mono ?_
    rintro e w17 ⟨rfl, hb17⟩
    clear cQ_0 cS_0
    have HX17 := Lib.hid ((hb17.block X (Array.getElem?_eq_some_iff.1 HX16.out).1).trans HX16.out)
    have HL17 := Lib.hid (SlT.below HL16.out hb17)
    have HB17 := Lib.hid (Raw.below HB16.out hb17)
    have HO17 := Lib.hid ((hb17.block O (Array.getElem?_eq_some_iff.1 HO16.out).1).trans HO16.out)
    have HC17 := Lib.hid (Raw.below HC16.out hb17)
    have HV9_17 := Lib.hid (SlT.below HV9_16.out hb17)
    have HP17 := Lib.hid ((hb17.block P (Array.getElem?_eq_some_iff.1 HP16.out).1).trans HP16.out)
    have HV13_17 := Lib.hid (SlT.below HV13_16.out hb17)
    have HQ17 := Lib.hid ((hb17.block Q (Array.getElem?_eq_some_iff.1 HQ16.out).1).trans HQ16.out)
    have HV15_17 := Lib.hid (SlT.below HV15_16.out hb17)
    have HS17 := Lib.hid ((hb17.block S (Array.getElem?_eq_some_iff.1 HS16.out).1).trans HS16.out)
    clear HX16 HL16 HB16 HO16 HC16 HV9_16 HP16 HV13_16 HQ16 HV15_16 HS16
    have bel17 := bel16.trans (hb17.mono bel16.size)
    simp only [decide_true]
    have cQ_0 := box_at HQ17.out (j := 0) rfl
    have cS_0 := box_at HS17.out (j := 0) rfl
    clear ecc
    rcases HDC.out with ⟨hc0, hexb, hvx⟩ | ⟨hx0, hc4⟩
    · subst hc0
      have HEX := Lib.hid hexb
      have HVX := Lib.hid hvx
      clear hexb hvx
      go_wp2_with fail
      refine (encode_any _ x _ (by omega) HV13_17.out).mono ?_
      rintro e w18 ⟨v18, rfl, hr18, hb18⟩
      clear cQ_0 cS_0
      have HX18 := Lib.hid ((hb18.block X (Array.getElem?_eq_some_iff.1 HX17.out).1).trans HX17.out)
      have HL18 := Lib.hid (SlT.below HL17.out hb18)
      have HB18 := Lib.hid (Raw.below HB17.out hb18)
      have HO18 := Lib.hid ((hb18.block O (Array.getElem?_eq_some_iff.1 HO17.out).1).trans HO17.out)
      have HC18 := Lib.hid (Raw.below HC17.out hb18)
      have HV9_18 := Lib.hid (SlT.below HV9_17.out hb18)
      have HP18 := Lib.hid ((hb18.block P (Array.getElem?_eq_some_iff.1 HP17.out).1).trans HP17.out)
      have HV13_18 := Lib.hid (SlT.below HV13_17.out hb18)
      have HQ18 := Lib.hid ((hb18.block Q (Array.getElem?_eq_some_iff.1 HQ17.out).1).trans HQ17.out)
      have HV15_18 := Lib.hid (SlT.below HV15_17.out hb18)
      have HS18 := Lib.hid ((hb18.block S (Array.getElem?_eq_some_iff.1 HS17.out).1).trans HS17.out)
      clear HX17 HL17 HB17 HO17 HC17 HV9_17 HP17 HV13_17 HQ17 HV15_17 HS17
      have bel18 := bel17.trans (hb18.mono bel17.size)
      have HE18 := Lib.hid (RetB.raw hr18)
      obtain ⟨a18, c18, rfl⟩ := own_slice hr18
      clear hr18 hb18
      go_wp2_with fail
      refine (same_any _ _ _ _ _ HE18.out HB18.out).mono ?_
      rintro e w' ⟨rfl, rfl⟩
      rw [show decide (Ti.encS x = b) = true from by rw [encS_true HVX.out, HEX.out]; simp]
      go_wp2
      go_ret
      exact ⟨rfl, bel18⟩
    · subst hc4
      go_wp2
      go_ret
      exact ⟨rfl, bel17⟩
  | false =>
    clear HR8
    go_wp2_with fail
    refine (decode_any _ (Ti.encS l) _ HC8.out (Nat.le_trans encS_len (by decide))).mono ?_
    rw [decT_encS, HV.out]
    simp only [Bool.false_eq_true, if_false]
    rintro e w9 ⟨v9, rfl, hr9, hb9⟩
    clear cX_0 cO_0
    have HX9 := Lib.hid ((hb9.block X (Array.getElem?_eq_some_iff.1 HX8.out).1).trans HX8.out)
    have HL9 := Lib.hid (SlT.below HL8.out hb9)
    have HB9 := Lib.hid (Raw.below HB8.out hb9)
    have HO9 := Lib.hid ((hb9.block O (Array.getElem?_eq_some_iff.1 HO8.out).1).trans HO8.out)
    have HC9 := Lib.hid (Raw.below HC8.out hb9)
    clear HX8 HL8 HB8 HO8 HC8
    have bel9 := bel8.trans (hb9.mono bel8.size)
    have HV9_9 := Lib.hid (SlT.of_own hr9)
    rw [show ([] : List Int).length = 0 from rfl] at hr9
    obtain ⟨da9, dc9, rfl⟩ := own_slice hr9
    clear hr9 hb9
    obtain ⟨P, hP⟩ : ∃ O, O = w9.heap.size := ⟨_, rfl⟩
    obtain ⟨w10, hw10⟩ : ∃ W, W = w9.alloc (.cells #[.slice da9 0 dc9] 37) := ⟨_, rfl⟩
    have hb10 : Below w9.heap.size w9 w10 := by rw [hw10]; exact (Below.refl _ _).alloc (Nat.le_refl _) _
    have hxP : w10.heap[P]? = some (.cells #[.slice da9 0 dc9] 37 (0, 0)) := by rw [hw10, hP]; exact heap_alloc_new w9 _
    have HW10 := Lib.hid hw10
    have HRP := Lib.hid hP
    clear hw10 hP
    go_upto_region 10 with (fail)
    rw [← HW10.out, ← HRP.out]
    clear HW10 HRP
    have HX10 := Lib.hid ((hb10.block X (Array.getElem?_eq_some_iff.1 HX9.out).1).trans HX9.out)
    have HL10 := Lib.hid (SlT.below HL9.out hb10)
    have HB10 := Lib.hid (Raw.below HB9.out hb10)
    have HO10 := Lib.hid ((hb10.block O (Array.getElem?_eq_some_iff.1 HO9.out).1).trans HO9.out)
    have HC10 := Lib.hid (Raw.below HC9.out hb10)
    have HV9_10 := Lib.hid (SlT.below HV9_9.out hb10)
    clear HX9 HL9 HB9 HO9 HC9 HV9_9
    have bel10 := bel9.trans (hb10.mono bel9.size)
    have HP10 := Lib.hid (hxP)
    clear hb10 hxP
    have cX_0 := box_at HX10.out (j := 0) rfl
    have cP_0 := box_at HP10.out (j := 0) rfl
    go_wp2_with fail
    refine (rvalid_any _ l _ (by have := Hcl.out; omega) HL10.out).mono ?_
    rintro e w11 ⟨rfl, hb11⟩
    clear cX_0 cP_0
    have HX11 := Lib.hid ((hb11.block X (Array.getElem?_eq_some_iff.1 HX10.out).1).trans HX10.out)
    have HL11 := Lib.hid (SlT.below HL10.out hb11)
    have HB11 := Lib.hid (Raw.below HB10.out hb11)
    have HO11 := Lib.hid ((hb11.block O (Array.getElem?_eq_some_iff.1 HO10.out).1).trans HO10.out)
    have HC11 := Lib.hid (Raw.below HC10.out hb11)
    have HV9_11 := Lib.hid (SlT.below HV9_10.out hb11)
    have HP11 := Lib.hid ((hb11.block P (Array.getElem?_eq_some_iff.1 HP10.out).1).trans HP10.out)
    clear HX10 HL10 HB10 HO10 HC10 HV9_10 HP10
    have bel11 := bel10.trans (hb11.mono bel10.size)
    have cX_0 := box_at HX11.out (j := 0) rfl
    have cP_0 := box_at HP11.out (j := 0) rfl
    rw [HV.out]
    obtain ⟨DD, hDD⟩ : ∃ DD, decT b = DD := ⟨_, rfl⟩
    have hdc := dec_cases b
    have hdl := dec_len b
    rw [hDD] at hdc hdl
    have HDD := Lib.hid hDD
    clear hDD
    obtain ⟨x, c⟩ := DD
    simp only at hdc hdl
    have HDC : Hid ((c = 0 ∧ encIs x = b ∧ validT x = true) ∨ (x = [] ∧ c = 4)) := Lib.hid (by
      rcases hdc with h | h
      · exact .inl h
      · right; injection h with h1 h2; exact ⟨h1, h2⟩)
    clear hdc

    go_wp2_with fail
    refine (decode_any _ b _ HB11.out (by omega)).mono ?_
    rw [HDD.out]
    rintro e w12 ⟨v12, rfl, hr12, hb12⟩
    clear cX_0 cP_0
    have HX12 := Lib.hid ((hb12.block X (Array.getElem?_eq_some_iff.1 HX11.out).1).trans HX11.out)
    have HL12 := Lib.hid (SlT.below HL11.out hb12)
    have HB12 := Lib.hid (Raw.below HB11.out hb12)
    have HO12 := Lib.hid ((hb12.block O (Array.getElem?_eq_some_iff.1 HO11.out).1).trans HO11.out)
    have HC12 := Lib.hid (Raw.below HC11.out hb12)
    have HV9_12 := Lib.hid (SlT.below HV9_11.out hb12)
    have HP12 := Lib.hid ((hb12.block P (Array.getElem?_eq_some_iff.1 HP11.out).1).trans HP11.out)
    clear HX11 HL11 HB11 HO11 HC11 HV9_11 HP11
    have bel12 := bel11.trans (hb12.mono bel11.size)
    have HV12_12 := Lib.hid (SlT.of_own hr12)
    obtain ⟨da12, dc12, rfl⟩ := own_slice hr12
    clear hr12 hb12
    obtain ⟨Q, hQ⟩ : ∃ O, O = w12.heap.size := ⟨_, rfl⟩
    obtain ⟨w13, hw13⟩ : ∃ W, W = w12.alloc (.cells #[.slice da12 x.length dc12] 37) := ⟨_, rfl⟩
    have hb13 : Below w12.heap.size w12 w13 := by rw [hw13]; exact (Below.refl _ _).alloc (Nat.le_refl _) _
    have hxQ : w13.heap[Q]? = some (.cells #[.slice da12 x.length dc12] 37 (0, 0)) := by rw [hw13, hQ]; exact heap_alloc_new w12 _
    have HW13 := Lib.hid hw13
    have HRQ := Lib.hid hQ
    clear hw13 hQ
    go_upto_region 13 with (fail)
    rw [← HW13.out, ← HRQ.out]
    clear HW13 HRQ
    have HX13 := Lib.hid ((hb13.block X (Array.getElem?_eq_some_iff.1 HX12.out).1).trans HX12.out)
    have HL13 := Lib.hid (SlT.below HL12.out hb13)
    have HB13 := Lib.hid (Raw.below HB12.out hb13)
    have HO13 := Lib.hid ((hb13.block O (Array.getElem?_eq_some_iff.1 HO12.out).1).trans HO12.out)
    have HC13 := Lib.hid (Raw.below HC12.out hb13)
    have HV9_13 := Lib.hid (SlT.below HV9_12.out hb13)
    have HP13 := Lib.hid ((hb13.block P (Array.getElem?_eq_some_iff.1 HP12.out).1).trans HP12.out)
    have HV12_13 := Lib.hid (SlT.below HV12_12.out hb13)
    clear HX12 HL12 HB12 HO12 HC12 HV9_12 HP12 HV12_12
    have bel13 := bel12.trans (hb13.mono bel12.size)
    have HQ13 := Lib.hid (hxQ)
    clear hb13 hxQ
    have cX_0 := box_at HX13.out (j := 0) rfl
    have cQ_0 := box_at HQ13.out (j := 0) rfl
    go_wp2_with fail
    refine (rdecode_any _ b _ HB13.out (by omega)).mono ?_
    rw [HDD.out]
    rintro e w14 ⟨v14, rfl, hr14, hb14⟩
    clear cX_0 cQ_0
    have HX14 := Lib.hid ((hb14.block X (Array.getElem?_eq_some_iff.1 HX13.out).1).trans HX13.out)
    have HL14 := Lib.hid (SlT.below HL13.out hb14)
    have HB14 := Lib.hid (Raw.below HB13.out hb14)
    have HO14 := Lib.hid ((hb14.block O (Array.getElem?_eq_some_iff.1 HO13.out).1).trans HO13.out)
    have HC14 := Lib.hid (Raw.below HC13.out hb14)
    have HV9_14 := Lib.hid (SlT.below HV9_13.out hb14)
    have HP14 := Lib.hid ((hb14.block P (Array.getElem?_eq_some_iff.1 HP13.out).1).trans HP13.out)
    have HV12_14 := Lib.hid (SlT.below HV12_13.out hb14)
    have HQ14 := Lib.hid ((hb14.block Q (Array.getElem?_eq_some_iff.1 HQ13.out).1).trans HQ13.out)
    clear HX13 HL13 HB13 HO13 HC13 HV9_13 HP13 HV12_13 HQ13
    have bel14 := bel13.trans (hb14.mono bel13.size)
    have HV14_14 := Lib.hid (SlT.of_own hr14)
    obtain ⟨da14, dc14, rfl⟩ := own_slice hr14
    clear hr14 hb14
    obtain ⟨S, hS⟩ : ∃ O, O = w14.heap.size := ⟨_, rfl⟩
    obtain ⟨w15, hw15⟩ : ∃ W, W = w14.alloc (.cells #[.slice da14 x.length dc14] 24) := ⟨_, rfl⟩
    have hb15 : Below w14.heap.size w14 w15 := by rw [hw15]; exact (Below.refl _ _).alloc (Nat.le_refl _) _
    have hxS : w15.heap[S]? = some (.cells #[.slice da14 x.length dc14] 24 (0, 0)) := by rw [hw15, hS]; exact heap_alloc_new w14 _
    have HW15 := Lib.hid hw15
    have HRS := Lib.hid hS
    clear hw15 hS
    go_upto_region 14 with (fail)
    rw [← HW15.out, ← HRS.out]
    clear HW15 HRS
    have HX15 := Lib.hid ((hb15.block X (Array.getElem?_eq_some_iff.1 HX14.out).1).trans HX14.out)
    have HL15 := Lib.hid (SlT.below HL14.out hb15)
    have HB15 := Lib.hid (Raw.below HB14.out hb15)
    have HO15 := Lib.hid ((hb15.block O (Array.getElem?_eq_some_iff.1 HO14.out).1).trans HO14.out)
    have HC15 := Lib.hid (Raw.below HC14.out hb15)
    have HV9_15 := Lib.hid (SlT.below HV9_14.out hb15)
    have HP15 := Lib.hid ((hb15.block P (Array.getElem?_eq_some_iff.1 HP14.out).1).trans HP14.out)
    have HV12_15 := Lib.hid (SlT.below HV12_14.out hb15)
    have HQ15 := Lib.hid ((hb15.block Q (Array.getElem?_eq_some_iff.1 HQ14.out).1).trans HQ14.out)
    have HV14_15 := Lib.hid (SlT.below HV14_14.out hb15)
    clear HX14 HL14 HB14 HO14 HC14 HV9_14 HP14 HV12_14 HQ14 HV14_14
    have bel15 := bel14.trans (hb15.mono bel14.size)
    have HS15 := Lib.hid (hxS)
    clear hb15 hxS
    have cQ_0 := box_at HQ15.out (j := 0) rfl
    have cS_0 := box_at HS15.out (j := 0) rfl
    have ecc : (c == c) = true := by simp
    go_wp2_with fail
    refine (sameints_any _ _ x x _ (by omega) (by omega) HV12_15.out HV14_15.out).mono ?_
    rintro e w16 ⟨rfl, hb16⟩
    clear cQ_0 cS_0
    have HX16 := Lib.hid ((hb16.block X (Array.getElem?_eq_some_iff.1 HX15.out).1).trans HX15.out)
    have HL16 := Lib.hid (SlT.below HL15.out hb16)
    have HB16 := Lib.hid (Raw.below HB15.out hb16)
    have HO16 := Lib.hid ((hb16.block O (Array.getElem?_eq_some_iff.1 HO15.out).1).trans HO15.out)
    have HC16 := Lib.hid (Raw.below HC15.out hb16)
    have HV9_16 := Lib.hid (SlT.below HV9_15.out hb16)
    have HP16 := Lib.hid ((hb16.block P (Array.getElem?_eq_some_iff.1 HP15.out).1).trans HP15.out)
    have HV12_16 := Lib.hid (SlT.below HV12_15.out hb16)
    have HQ16 := Lib.hid ((hb16.block Q (Array.getElem?_eq_some_iff.1 HQ15.out).1).trans HQ15.out)
    have HV14_16 := Lib.hid (SlT.below HV14_15.out hb16)
    have HS16 := Lib.hid ((hb16.block S (Array.getElem?_eq_some_iff.1 HS15.out).1).trans HS15.out)
    clear HX15 HL15 HB15 HO15 HC15 HV9_15 HP15 HV12_15 HQ15 HV14_15 HS15
    have bel16 := bel15.trans (hb16.mono bel15.size)
    simp only [decide_true]
    have cQ_0 := box_at HQ16.out (j := 0) rfl
    have cS_0 := box_at HS16.out (j := 0) rfl
    clear ecc
    rcases HDC.out with ⟨hc0, hexb, hvx⟩ | ⟨hx0, hc4⟩
    · subst hc0
      have HEX := Lib.hid hexb
      have HVX := Lib.hid hvx
      clear hexb hvx
      go_wp2_with fail
      refine (encode_any _ x _ (by omega) HV12_16.out).mono ?_
      rintro e w17 ⟨v17, rfl, hr17, hb17⟩
      clear cQ_0 cS_0
      have HX17 := Lib.hid ((hb17.block X (Array.getElem?_eq_some_iff.1 HX16.out).1).trans HX16.out)
      have HL17 := Lib.hid (SlT.below HL16.out hb17)
      have HB17 := Lib.hid (Raw.below HB16.out hb17)
      have HO17 := Lib.hid ((hb17.block O (Array.getElem?_eq_some_iff.1 HO16.out).1).trans HO16.out)
      have HC17 := Lib.hid (Raw.below HC16.out hb17)
      have HV9_17 := Lib.hid (SlT.below HV9_16.out hb17)
      have HP17 := Lib.hid ((hb17.block P (Array.getElem?_eq_some_iff.1 HP16.out).1).trans HP16.out)
      have HV12_17 := Lib.hid (SlT.below HV12_16.out hb17)
      have HQ17 := Lib.hid ((hb17.block Q (Array.getElem?_eq_some_iff.1 HQ16.out).1).trans HQ16.out)
      have HV14_17 := Lib.hid (SlT.below HV14_16.out hb17)
      have HS17 := Lib.hid ((hb17.block S (Array.getElem?_eq_some_iff.1 HS16.out).1).trans HS16.out)
      clear HX16 HL16 HB16 HO16 HC16 HV9_16 HP16 HV12_16 HQ16 HV14_16 HS16
      have bel17 := bel16.trans (hb17.mono bel16.size)
      have HE17 := Lib.hid (RetB.raw hr17)
      obtain ⟨a17, c17, rfl⟩ := own_slice hr17
      clear hr17 hb17
      go_wp2_with fail
      refine (same_any _ _ _ _ _ HE17.out HB17.out).mono ?_
      rintro e w' ⟨rfl, rfl⟩
      rw [show decide (Ti.encS x = b) = true from by rw [encS_true HVX.out, HEX.out]; simp]
      go_wp2
      go_ret
      exact ⟨rfl, bel17⟩
    · subst hc4
      go_wp2
      go_ret
      exact ⟨rfl, bel16⟩
end Go.Proofs.Ytdelemmoiaiooaa
