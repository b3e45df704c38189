/- Revive: the reference's Valid -/
import Derived.Test.YthmnhpakgjnngaaGreatDoorYd
import Derived.Test.YthmnhpakgjnngaaGreatDoorVb
import Derived.Deep.CutRange
import Derived.WalkMore
namespace Go.Rv
open Go Go.RowKit Go.Bs Go.Cl Go.Rw Go.Dt
theorem vv_b {x : Sv} (h : okBb x.r x.wt = false) : validV x = false := by unfold validV; rw [h]; rfl
theorem vv_w {x : Sv} {k : Nat} (hk : k < x.wt.length) (h : cmpt (itAt x.wt k) = false) : validV x = false := by
  unfold validV
  have : x.wt.all cmpt = false := by
    rw [List.all_eq_false]
    exact ⟨x.wt[k], List.getElem_mem hk, by rw [it_get hk, h]; simp⟩
  rw [this]; simp
theorem vv_h {x : Sv} (h : validH x.hs = false) : validV x = false := by unfold validV; rw [h]; simp
theorem vv_all {x : Sv} (h1 : okBb x.r x.wt = true) (h2 : ∀ k, k < x.wt.length → cmpt (itAt x.wt k) = true) (h3 : validH x.hs = true) : validV x = true := by
  unfold validV
  have : x.wt.all cmpt = true := List.all_eq_true.2 fun y hy => by
    obtain ⟨k, hk, rfl⟩ := List.getElem_of_mem hy
    rw [it_get hk]; exact h2 k hk
  rw [h1, this, h3]; rfl
end Go.Rv
namespace Go.Proofs.YthmnhpakgjnngaaGreatDoor
open Go.RowKit Go.Bs Go.Cl Go.Rw Go.Dt Go.Rv
set_option maxRecDepth 100000 in
set_option maxHeartbeats 8000000 in
theorem rvalidV_any (x : Sv) (wv hv : Value) (w : World) (hl1 : x.wt.length ≤ 1000) (hl2 : x.hs.length ≤ 1000) (h1 : Ints [] w wv x.wt) (h2 : SlH w hv x.hs) :
    Calls Tryz.prog 31 #[.agg #[.int .i64 x.r, wv, hv]] w fun e w' => e = .returned (.bool (validV x)) ∧ Below w.heap.size w w' := by
  obtain ⟨wa, wc, rfl⟩ := Raw.slice h1
  obtain ⟨ha, hc, rfl⟩ := Raw.slice h2
  obtain ⟨W, hW⟩ : ∃ W, W = w.alloc (.cells #[.int .i64 x.r, .slice wa x.wt.length wc, .slice ha x.hs.length hc] 27) := ⟨_, rfl⟩
  have hb : Below w.heap.size w W := by rw [hW]; exact (Below.refl w.heap.size w).alloc (Nat.le_refl _) _
  have hx : W.heap[w.heap.size]? = some (.cells #[.int .i64 x.r, .slice wa x.wt.length wc, .slice ha x.hs.length hc] 27 (0, 0)) := by rw [hW]; exact heap_alloc_new w _
  obtain ⟨S, hS⟩ : ∃ S, S = w.heap.size := ⟨_, rfl⟩
  rw [← hS] at hx
  have HI := Lib.hid (Raw.below h1 hb); have HJ := Lib.hid (SlH.below h2 hb)
  have s0 := box_at hx (j := 0) rfl
  have s1 := box_at hx (j := 1) rfl
  have s2 := box_at hx (j := 2) rfl
  have HB := Lib.hid hb; have HX := Lib.hid hx; have HW := Lib.hid hW; have HSe := Lib.hid hS
  clear h1 h2 hb hx hW hS
  go_enter Tryz.func31, Tryz.ntmps31
  go_upto_region 1 with (fail)
  rw [← HW.out, ← HSe.out]
  clear HW HSe
  go_wp2_with fail
  refine (rvalidB_any x.r _ x.wt W (by omega) HI.out).mono ?_
  rintro e w1 ⟨rfl, hb1⟩
  obtain ⟨OB, hOB⟩ : ∃ B, okBb x.r x.wt = B := ⟨_, rfl⟩
  rw [hOB]
  have HOB := Lib.hid hOB
  have HX1 := Lib.hid ((hb1.block S (Array.getElem?_eq_some_iff.1 HX.out).1).trans HX.out)
  have HI1 := Lib.hid (Raw.below HI.out hb1); have HJ1 := Lib.hid (SlH.below HJ.out hb1)
  have bel1 := HB.out.trans (hb1.mono HB.out.size)
  clear hb1 hOB s0 s1 s2 HX HI HJ HB
  have s0 := box_at HX1.out (j := 0) rfl
  have s1 := box_at HX1.out (j := 1) rfl
  have s2 := box_at HX1.out (j := 2) rfl
  cases OB
  · have HV := Lib.hid (vv_b HOB.out)
    go_wp2
    go_ret
    exact ⟨ret_bool HV.out.symm, bel1⟩
  · go_wp2
    go_loopw [3] (fun i wr => ∃ k : Nat, k ≤ x.wt.length ∧ i = .int .i64 k ∧ w1 = wr ∧ ∀ j, j < k → cmpt (itAt x.wt j) = true) (fun i _ => x.wt.length - (intOf i).toNat)
    case atStart => exact ⟨0, Nat.zero_le _, rfl, rfl, fun j hj => absurd hj (Nat.not_lt_zero _)⟩
    case round =>
      obtain ⟨k, hk, rfl, hw, hok⟩ := hrel
      subst hw
      have HOK := Lib.hid hok; clear hok
      by_cases hlt : k < x.wt.length
      · obtain ⟨b, off, cp, he, hb, h0⟩ := Ints.elem HI1.out hlt
        cases he
        obtain ⟨z, hz⟩ : ∃ z, x.wt[k] = z := ⟨_, rfl⟩
        rw [hz] at h0
        have hzz : itAt x.wt k = z := by rw [← hz]; exact (it_get hlt).symm
        have HZ := Lib.hid hzz
        clear hz hzz
        obtain ⟨CB, hCB⟩ : ∃ B, cmpt z = B := ⟨_, rfl⟩
        have HCB := Lib.hid hCB
        clear hCB
        go_wp2_with fail
        refine (rcomponent_eq z CB _ HCB.out).mono ?_
        rintro e w' ⟨rfl, rfl⟩
        cases CB
        · have HV := Lib.hid (vv_w (x := x) hlt (by rw [HZ.out]; exact HCB.out))
          go_wp2
          go_ret
          exact ⟨ret_bool HV.out.symm, bel1⟩
        · go_wp2
          go_roundw
          case rel => exact ⟨k + 1, hlt, by go_num, by first | trivial | rfl, fun j hj => by
            by_cases hjk : j < k
            · exact HOK.out j hjk
            · obtain rfl : j = k := by omega
              rw [HZ.out]; exact HCB.out⟩
          case measure => simp [intOf]; omega
      · obtain rfl : k = x.wt.length := by omega
        have HWT := Lib.hid HOK.out
        clear hlt hk HOK
        go_wp2
        go_loopw [4] (fun i wr => ∃ k : Nat, k ≤ x.hs.length ∧ i = .int .i64 k ∧ Below w1.heap.size w1 wr ∧ ∀ j, j < k → okH x.hs j = true) (fun i _ => x.hs.length - (intOf i).toNat)
        case atStart => exact ⟨0, Nat.zero_le _, rfl, Below.refl _ _, fun j hj => absurd hj (Nat.not_lt_zero _)⟩
        case round =>
          clear s0 s1 s2
          obtain ⟨k, hk, rfl, hbel, hok⟩ := hrel
          have HOK := Lib.hid hok; have HBl := Lib.hid hbel
          have hx2 := (hbel.block S (Array.getElem?_eq_some_iff.1 HX1.out).1).trans HX1.out
          have a2 := box_at hx2 (j := 2) rfl
          clear hok hx2
          by_cases hlt : k < x.hs.length
          · obtain ⟨q, off, rfl, hq, e0, e1, e2⟩ := (SlH.below HJ1.out hbel).elem hlt
            obtain ⟨z, hz⟩ : ∃ z, hsAt x.hs k = z := ⟨_, rfl⟩
            rw [hz] at e0 e1 e2
            have HZ := Lib.hid hz
            clear hz
            obtain ⟨X, hX⟩ : ∃ X, X = wr.heap.size := ⟨_, rfl⟩
            obtain ⟨wa', hwa⟩ : ∃ W, W = wr.alloc (.cells #[.int .i64 z.t, .int .i64 z.n, .int .i64 z.c] 74) := ⟨_, rfl⟩
            have hal : Below wr.heap.size wr wa' := by rw [hwa]; exact (Below.refl _ wr).alloc (Nat.le_refl _) _
            have hxb : wa'.heap[X]? = some (.cells #[.int .i64 z.t, .int .i64 z.n, .int .i64 z.c] 74 (0, 0)) := by rw [hwa, hX]; exact heap_alloc_new wr _
            have HXb := Lib.hid hxb
            have HB1 := Lib.hid (hbel.trans (hal.mono hbel.size))
            have HWA := Lib.hid hwa; have HXE := Lib.hid hX
            clear hwa hX hal hxb hbel
            go_upto_region 12 with (fail)
            rw [← HWA.out, ← HXE.out]
            clear HWA HXE e0 e1 e2 a2 HBl
            have hBl : ∀ q ∈ ([] : List Nat), ∃ cc e f, wa'.heap[q]? = some (.cells cc e f) := fun q hq => by cases hq
            refine Txt.Ty.wp_tree [] [] [] [1, 6, 11, 16, 21, 29, 34, 36] [0, 1] (.alt [2, 3, 4, 5, 6, 7, 8, 9, 10, 11, 12, 13, 14, 15, 16, 17, 18, 19, 20, 21, 22, 23, 24, 25, 26, 27, 28, 29, 30, 31, 32, 33, 34, 35, 36, 37, 38, 39] (.done) (.no)) (by kernel_rfl) (by kernel_rfl) (by kernel_rfl) (by kernel_rfl) hBl ?_
            obtain ⟨y0, hy0⟩ : ∃ y, y = wa'.drew := ⟨_, rfl⟩
            clear hBl
            rw [← hy0]
            have hd : Below wa'.heap.size wa' y0 := by rw [hy0]; exact (Below.refl _ _).drew
            have HB2 := Lib.hid (HB1.out.trans (hd.mono HB1.out.size))
            have HS2 := Lib.hid (SlH.below HJ1.out HB2.out)
            have hx3 := (hd.block X (Array.getElem?_eq_some_iff.1 HXb.out).1).trans HXb.out
            have d0 := box_at hx3 (j := 0) rfl
            have d1 := box_at hx3 (j := 1) rfl
            have d2 := box_at hx3 (j := 2) rfl
            have hs3 := (HB2.out.block S (Array.getElem?_eq_some_iff.1 HX1.out).1).trans HX1.out
            have a2 := box_at hs3 (j := 2) rfl
            have bel2 := bel1
            clear hy0 hd hx3 hs3 HXb HB1
            (try simp only [Txt.pick, List.getElem?_cons_succ, List.getElem?_cons_zero])
            go_wp2
            refine Txt.RunPost.mk ?_
            refine Txt.Ty.wpTr_alt ?_ Txt.Ty.wpTr_no
            (try simp only [Txt.pick, List.getElem?_cons_succ, List.getElem?_cons_zero])
            obtain ⟨CB, hCB⟩ : ∃ B, cmpt z.t = B := ⟨_, rfl⟩
            have HCB := Lib.hid hCB
            clear hCB
            go_wp2_with fail
            refine (rcomponent_eq z.t CB _ HCB.out).mono ?_
            rintro e w' ⟨rfl, rfl⟩
            cases CB
            · have HV : Hid (validV x = false) := Lib.hid (vv_h (validH_false hlt (by unfold okH okE; rw [HZ.out]; rw [HCB.out]; rfl)))
              go_wp2
              refine Txt.SegPost.mk (Txt.Ty.Shown.none) ?_
              (try simp only [Txt.pick, List.getElem?_cons_succ, List.getElem?_cons_zero])
              go_wp2
              refine Txt.RunPost.mk ?_
              refine Txt.Ty.wpTr_done (by rfl) trivial ?_
              go_wp2
              go_ret
              exact ⟨ret_bool HV.out.symm, bel2.trans (HB2.out.mono bel2.size)⟩
            · by_cases hn : z.n < 1
              · have hn1 : z.n < 1 := by omega
                have HV : Hid (validV x = false) := Lib.hid (vv_h (validH_false hlt (by unfold okH okE; rw [HZ.out]; simp [show ¬ 1 ≤ z.n by omega])))
                go_wp2
                refine Txt.SegPost.mk (Txt.Ty.Shown.none) ?_
                (try simp only [Txt.pick, List.getElem?_cons_succ, List.getElem?_cons_zero])
                go_wp2
                refine Txt.RunPost.mk ?_
                refine Txt.Ty.wpTr_done (by rfl) trivial ?_
                go_wp2
                go_ret
                exact ⟨ret_bool HV.out.symm, bel2.trans (HB2.out.mono bel2.size)⟩
              by_cases hn : 1000000000 < z.n
              · have hn1 : ¬ z.n < 1 := by omega
                have hn2 : 1000000000 < z.n := by omega
                have HV : Hid (validV x = false) := Lib.hid (vv_h (validH_false hlt (by unfold okH okE; rw [HZ.out]; simp [show ¬ z.n ≤ 1000000000 by omega])))
                go_wp2
                refine Txt.SegPost.mk (Txt.Ty.Shown.none) ?_
                (try simp only [Txt.pick, List.getElem?_cons_succ, List.getElem?_cons_zero])
                go_wp2
                refine Txt.RunPost.mk ?_
                refine Txt.Ty.wpTr_done (by rfl) trivial ?_
                go_wp2
                go_ret
                exact ⟨ret_bool HV.out.symm, bel2.trans (HB2.out.mono bel2.size)⟩
              by_cases hn : z.c < 1
              · have hn1 : ¬ z.n < 1 := by omega
                have hn2 : ¬ 1000000000 < z.n := by omega
                have hn3 : z.c < 1 := by omega
                have HV : Hid (validV x = false) := Lib.hid (vv_h (validH_false hlt (by unfold okH okE; rw [HZ.out]; simp [show ¬ 1 ≤ z.c by omega])))
                go_wp2
                refine Txt.SegPost.mk (Txt.Ty.Shown.none) ?_
                (try simp only [Txt.pick, List.getElem?_cons_succ, List.getElem?_cons_zero])
                go_wp2
                refine Txt.RunPost.mk ?_
                refine Txt.Ty.wpTr_done (by rfl) trivial ?_
                go_wp2
                go_ret
                exact ⟨ret_bool HV.out.symm, bel2.trans (HB2.out.mono bel2.size)⟩
              by_cases hn : 7 < z.c
              · have hn1 : ¬ z.n < 1 := by omega
                have hn2 : ¬ 1000000000 < z.n := by omega
                have hn3 : ¬ z.c < 1 := by omega
                have hn4 : 7 < z.c := by omega
                have HV : Hid (validV x = false) := Lib.hid (vv_h (validH_false hlt (by unfold okH okE; rw [HZ.out]; simp [show ¬ z.c ≤ 7 by omega])))
                go_wp2
                refine Txt.SegPost.mk (Txt.Ty.Shown.none) ?_
                (try simp only [Txt.pick, List.getElem?_cons_succ, List.getElem?_cons_zero])
                go_wp2
                refine Txt.RunPost.mk ?_
                refine Txt.Ty.wpTr_done (by rfl) trivial ?_
                go_wp2
                go_ret
                exact ⟨ret_bool HV.out.symm, bel2.trans (HB2.out.mono bel2.size)⟩
              have hn1 : ¬ z.n < 1 := by omega
              have hn2 : ¬ 1000000000 < z.n := by omega
              have hn3 : ¬ z.c < 1 := by omega
              have hn4 : ¬ 7 < z.c := by omega
              have HE : Hid (okE z = true) := Lib.hid (okE_iff.2 (by have := HCB.out; simp [cmpt] at this; omega))
              by_cases hk0 : k = 0
              · subst hk0
                have HK : Hid (okH x.hs 0 = true) := Lib.hid (by unfold okH; rw [HZ.out, HE.out]; rfl)
                go_wp2
                refine Txt.SegPost.mk (Txt.Ty.Shown.none) ?_
                (try simp only [Txt.pick, List.getElem?_cons_succ, List.getElem?_cons_zero])
                go_wp2
                refine Txt.RunPost.mk ?_
                refine Txt.Ty.wpTr_done (by rfl) trivial ?_
                clear d0 d1 d2 a2
                go_wp2
                go_roundw
                case rel => exact ⟨1, hlt, by go_num, HB2.out, fun j hj => by
                  obtain rfl : j = 0 := by omega
                  exact HK.out⟩
                case measure => simp [intOf]; omega
              · obtain ⟨p, rfl⟩ : ∃ p, k = p + 1 := ⟨k - 1, by omega⟩
                have hpl : p < x.hs.length := by omega
                obtain ⟨_, _, hqe, _, e0, _, _⟩ := HS2.out.elem hpl
                cases hqe
                obtain ⟨y, hy⟩ : ∃ y, hsAt x.hs p = y := ⟨_, rfl⟩
                rw [hy] at e0
                have HY := Lib.hid hy
                clear hy
                have hkp : (0 : Int) < ((p + 1 : Nat) : Int) := by omega
                by_cases hzy : z.t ≤ y.t
                · have HV : Hid (validV x = false) := Lib.hid (vv_h (validH_false hlt (by
                    unfold okH
                    rw [HZ.out, HE.out, Nat.add_sub_cancel, HY.out]
                    simp; omega)))
                  go_wp2
                  refine Txt.SegPost.mk (Txt.Ty.Shown.none) ?_
                  (try simp only [Txt.pick, List.getElem?_cons_succ, List.getElem?_cons_zero])
                  go_wp2
                  refine Txt.RunPost.mk ?_
                  refine Txt.Ty.wpTr_done (by rfl) trivial ?_
                  go_wp2
                  go_ret
                  exact ⟨ret_bool HV.out.symm, bel2.trans (HB2.out.mono bel2.size)⟩
                · have HK : Hid (okH x.hs (p + 1) = true) := Lib.hid (by
                    unfold okH
                    rw [HZ.out, HE.out, Nat.add_sub_cancel, HY.out]
                    simp; omega)
                  go_wp2
                  refine Txt.SegPost.mk (Txt.Ty.Shown.none) ?_
                  (try simp only [Txt.pick, List.getElem?_cons_succ, List.getElem?_cons_zero])
                  go_wp2
                  refine Txt.RunPost.mk ?_
                  refine Txt.Ty.wpTr_done (by rfl) trivial ?_
                  clear d0 d1 d2 a2 e0
                  go_wp2
                  go_roundw
                  case rel => exact ⟨p + 1 + 1, hlt, by go_num, HB2.out, fun j hj => by
                    by_cases hjk : j < p + 1
                    · exact HOK.out j hjk
                    · obtain rfl : j = p + 1 := by omega
                      exact HK.out⟩
                  case measure => simp [intOf]; omega
          · obtain rfl : k = x.hs.length := by omega
            have HV := Lib.hid (vv_all HOB.out HWT.out (validH_true HOK.out))
            go_wp2
            go_ret
            exact ⟨ret_bool HV.out.symm, bel1.trans (HBl.out.mono bel1.size)⟩
end Go.Proofs.YthmnhpakgjnngaaGreatDoor
