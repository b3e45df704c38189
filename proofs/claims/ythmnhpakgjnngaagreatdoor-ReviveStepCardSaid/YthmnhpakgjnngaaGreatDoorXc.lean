/- Revive: the program's encoders -/
import Derived.Test.YthmnhpakgjnngaaGreatDoorXa
import Derived.Test.YthmnhpakgjnngaaGreatDoorVb
import Derived.Deep.CutRange
import Derived.WalkMore
namespace Go.Proofs.YthmnhpakgjnngaaGreatDoor
open Go.RowKit Go.Bs Go.Cl Go.Rw Go.Dt Go.Rv Go.Wi
set_option maxRecDepth 100000 in
set_option maxHeartbeats 4000000 in
theorem ints_any (v0 v : Value) (l0 : List UInt8) (l : List Int) (W w : World) (hl0 : l0.length ≤ 100000) (hl : l.length ≤ 1000) (h0 : BRow 5 w W.heap.size v0 l0) (hb0 : Below W.heap.size W w) (h : Ints [] W v l) (hf : ∀ x ∈ l, Wi.fits x) :
    Calls Tryz.prog 35 #[v0, v] w fun e w' => ∃ v', e = .returned v' ∧ BRow 5 w' W.heap.size v' (l0 ++ encIs l) ∧ Below W.heap.size W w' := by
  obtain ⟨a, cap, rfl⟩ := Raw.slice h
  obtain ⟨a0, cap0, rfl⟩ := own_slice h0
  have H := Lib.hid h; have HF := Lib.hid hf; have H0 := Lib.hid h0
  clear h hf h0
  have hfl : Wi.fits (l.length : Int) := by unfold Wi.fits; omega
  have Hfl := Lib.hid hfl; clear hfl
  have hs0 := hb0.size
  have HB0 := Lib.hid hb0; clear hb0
  go_enter Tryz.func35, Tryz.ntmps35
  go_wp2_with fail
  refine (wint_any _ l0 (l.length : Int) W.heap.size _ Hfl.out (by omega) H0.out hs0).mono ?_
  rintro e w2 ⟨v2, rfl, hg2⟩
  have hbel2 := hg2.below H0.out (Nat.le_refl _) hs0 HB0.out
  have HR2 := Lib.hid hg2.row
  clear hg2 hs0 HB0 H0
  go_wp2
  go_loopw [0, 13] (fun bv i wr => ∃ k : Nat, k ≤ l.length ∧ i = .int .i64 k ∧ BRow 5 wr W.heap.size bv ((l0 ++ Wi.encI l.length) ++ (l.take k).flatMap Wi.encI) ∧ Below W.heap.size W wr) (fun _ i _ => l.length - (intOf i).toNat)
  case atStart => exact ⟨0, Nat.zero_le _, rfl, by simpa using HR2.out, hbel2⟩
  case round =>
    clear hbel2
    obtain ⟨k, hk, rfl, hrow, hbel⟩ := hrel
    have hsz := hbel.size
    have hfk := encIs_flat (l := l.take k) (fun x hx => HF.out x (List.mem_of_mem_take hx))
    have hel := encI_len Hfl.out
    have hacc : ((l0 ++ Wi.encI l.length) ++ (l.take k).flatMap Wi.encI).length ≤ 900000 := by
      rw [List.length_append, List.length_append]
      have : (l.take k).length ≤ l.length := by simp; omega
      omega
    obtain ⟨acc, hac⟩ : ∃ acc, (l0 ++ Wi.encI l.length) ++ (l.take k).flatMap Wi.encI = acc := ⟨_, rfl⟩
    rw [hac] at hrow hacc
    have Hac := Lib.hid hac; clear hac
    obtain ⟨ra, rc, rfl⟩ := own_slice hrow
    have HR := Lib.hid hrow
    clear hrow hfk hel
    by_cases hlt : k < l.length
    · obtain ⟨b, off, cp, hav, hb, h0⟩ := Ints.elem (Raw.below H.out hbel) hlt
      cases hav
      have htf := take_ints hlt
      have hfz := HF.out _ (List.getElem_mem hlt)
      obtain ⟨z, hz⟩ : ∃ z, l[k] = z := ⟨_, rfl⟩
      rw [hz] at h0 htf hfz
      have Htf := Lib.hid htf; have Hfz := Lib.hid hfz; clear htf hfz hz
      go_wp2_with fail
      refine (wint_any _ acc z W.heap.size _ Hfz.out (by omega) HR.out hbel.size).mono ?_
      rintro e w4 ⟨v4, rfl, hg4⟩
      have hbel4 := hg4.below HR.out (Nat.le_refl _) hbel.size hbel
      have hrow4 : BRow 5 w4 W.heap.size v4 ((l0 ++ Wi.encI l.length) ++ (l.take (k + 1)).flatMap Wi.encI) := by
        rw [Htf.out, ← List.append_assoc, Hac.out]; exact hg4.row
      have HR4 := Lib.hid hrow4
      clear hg4 hrow4 h0
      go_wp2
      go_roundw
      case rel => exact ⟨k + 1, hlt, by go_num, HR4.out, hbel4⟩
      case measure => simp [intOf]; omega
    · obtain rfl : k = l.length := by omega
      rw [List.take_length] at Hac
      go_wp2
      go_ret
      refine ⟨_, rfl, ?_, hbel⟩
      have e : l0 ++ encIs l = acc := by rw [← Hac.out, List.append_assoc]; rfl
      rw [e]
      exact HR.out
set_option maxRecDepth 100000 in
set_option maxHeartbeats 8000000 in
theorem encode_any (x : Sv) (wv hv : Value) (w : World) (hl1 : x.wt.length ≤ 1000) (hl2 : x.hs.length ≤ 1000) (h1 : Ints [] w wv x.wt) (h2 : SlH w hv x.hs) :
    Calls Tryz.prog 13 #[.agg #[.int .i64 x.r, wv, hv]] w fun e w' => ∃ v, e = .returned v ∧ BRow 5 w' w.heap.size v (encV x) ∧ Below w.heap.size w w' := by
  obtain ⟨a, cap, rfl⟩ := Raw.slice h1
  obtain ⟨ha, hc, rfl⟩ := Raw.slice h2
  obtain ⟨W, hW⟩ : ∃ W, W = w.alloc (.cells #[.int .i64 x.r, .slice a x.wt.length cap, .slice ha x.hs.length hc] 41) := ⟨_, rfl⟩
  have hb : Below w.heap.size w W := by rw [hW]; exact (Below.refl w.heap.size w).alloc (Nat.le_refl _) _
  have hx : W.heap[w.heap.size]? = some (.cells #[.int .i64 x.r, .slice a x.wt.length cap, .slice ha x.hs.length hc] 41 (0, 0)) := by rw [hW]; exact heap_alloc_new w _
  have H1 := Lib.hid (Raw.below h1 hb); have H2 := Lib.hid (Raw.below h2 hb)
  have Hb := Lib.hid hb; have HW := Lib.hid hW
  have o0 := box_at hx (j := 0) rfl
  have o1 := box_at hx (j := 1) rfl
  have o2 := box_at hx (j := 2) rfl
  have Hx := Lib.hid hx
  clear h1 h2 hb hx hW
  go_enter Tryz.func13, Tryz.ntmps13
  go_upto_region 1 with (fail)
  rw [← HW.out]
  clear HW
  obtain ⟨S, hS⟩ : ∃ S, S = w.heap.size := ⟨_, rfl⟩
  rw [← hS] at o0 o1 o2 Hx ⊢
  have HSe := Lib.hid hS; clear hS
  go_wp2_with fail
  refine (valid_any x _ _ W hl1 hl2 H1.out H2.out).mono ?_
  rintro e w1 ⟨rfl, hb1⟩
  have hxl := (Array.getElem?_eq_some_iff.1 Hx.out).1
  have Hb1 := Lib.hid (Hb.out.trans (hb1.mono Hb.out.size))
  have hx1 := (hb1.block _ hxl).trans Hx.out
  have H11 := Lib.hid (Raw.below H1.out hb1); have H12 := Lib.hid (Raw.below H2.out hb1)
  clear hb1 o0 o1 o2 H1 H2 Hx hxl Hb
  have Hx1 := Lib.hid hx1; clear hx1
  cases hv : validV x
  · have He : Hid (encV x = []) := Lib.hid (encV_false hv)
    clear hv
    go_wp2
    go_ret
    rw [He.out]
    exact ⟨_, rfl, brow_nil _ _ _, by have := HSe.out; exact Hb1.out⟩
  · have hok := validV_iff.1 hv
    have He := Lib.hid (encV_true hok)
    obtain ⟨f1, f2, f3⟩ := vok_fits hok
    have g1 := hok.len
    have g2 := validH_len hok.h
    have F1 := Lib.hid f1; have F2 := Lib.hid f2; have F3 := Lib.hid f3
    clear hv f1 f2 f3 hok
    go_upto_region 3 with (fail)
    have hBl := show ∀ q ∈ [S], ∃ cc e f, w1.heap[q]? = some (.cells cc e f) from fun q hq => by rw [List.mem_singleton.1 hq]; exact ⟨_, _, _, Hx1.out⟩
    refine Txt.Ty.wp_tree [S] [6] [] [2, 6] [0, 1, 2, 4, 5, 6] (.alt [3] (.alt [7, 8] (.done) (.no)) (.no)) (by kernel_rfl) (by kernel_rfl) (by kernel_rfl) (by kernel_rfl) hBl ?_
    obtain ⟨y0, hy0⟩ : ∃ y, y = w1.drew := ⟨_, rfl⟩
    have HS0 : Hid (Txt.SameB [S] y0 y0) := Lib.hid (by rw [hy0]; exact same_start hBl)
    clear hBl
    rw [← hy0]
    have hd : Below w1.heap.size w1 y0 := by rw [hy0]; exact (Below.refl _ _).drew
    have HY1 := Lib.hid (Raw.below H11.out hd)
    have HY2 := Lib.hid (Raw.below H12.out hd)
    have HbY := Lib.hid (Hb1.out.trans (hd.mono Hb1.out.size))
    have hx := (hd.block S (Array.getElem?_eq_some_iff.1 Hx1.out).1).trans Hx1.out
    have hSl := (Array.getElem?_eq_some_iff.1 hx).1
    have o0 := box_at hx (j := 0) rfl
    have o1 := box_at hx (j := 1) rfl
    have HX := Lib.hid hx
    clear hx hd hy0 H11 H12 Hb1 Hx1
    (try simp only [Txt.pick, List.getElem?_cons_succ, List.getElem?_cons_zero])
    go_wp2
    refine Txt.RunPost.mk ?_
    refine Txt.Ty.wpTr_alt ?_ Txt.Ty.wpTr_no
    (try simp only [Txt.pick, List.getElem?_cons_succ, List.getElem?_cons_zero])
    go_wp2_with fail
    refine (wint_any _ [] x.r y0.heap.size _ F1.out (by simp) (World.ownsRow_nil _ _ _ _) (Nat.le_refl _)).mono ?_
    rintro e w2 ⟨v2, rfl, hg2⟩
    have hbel2 := hg2.below (brow_nil _ _ _) (Nat.le_refl _) (Nat.le_refl _) (Below.refl _ _)
    have HS2 := Lib.hid (same_below' HS0.out hbel2)
    have hr2 : BRow 5 w2 y0.heap.size v2 (Wi.encI x.r) := hg2.row
    have HR2 := Lib.hid hr2
    have HB2 := Lib.hid hbel2
    have hl2' : (Wi.encI x.r).length ≤ 100000 := by have := encI_len F1.out; omega
    clear hg2 hbel2 hr2 o0 o1
    go_wp2
    refine Txt.SegPost.mk (Txt.Ty.Shown.same HS2.out) ?_
    (try simp only [Txt.pick, List.getElem?_cons_succ, List.getElem?_cons_zero])
    go_wp2
    refine Txt.RunPost.mk ?_
    refine Txt.Ty.wpTr_alt ?_ Txt.Ty.wpTr_no
    (try simp only [Txt.pick, List.getElem?_cons_succ, List.getElem?_cons_zero])
    go_wp2_with fail
    refine (ints_any _ _ (Wi.encI x.r) x.wt y0 _ hl2' hl1 HR2.out HB2.out HY1.out F2.out).mono ?_
    rintro e w3 ⟨v3, rfl, hr3, hb3⟩
    have HS3 := Lib.hid (same_below' HS0.out hb3)
    obtain ⟨l3, hl3e⟩ : ∃ l3, Wi.encI x.r ++ encIs x.wt = l3 := ⟨_, rfl⟩
    have hl3 : l3.length ≤ 100000 := by rw [← hl3e]; have := encIs_len F2.out hl1; rw [List.length_append]; have := encI_len F1.out; omega
    rw [hl3e] at hr3
    have HL3 := Lib.hid hl3e
    have HR3 := Lib.hid hr3
    have hx3 := (hb3.block S hSl).trans HX.out
    have o1 := box_at hx3 (j := 1) rfl
    have o2 := box_at hx3 (j := 2) rfl
    have HX3 := Lib.hid hx3
    have HB3 := Lib.hid hb3
    have hs3 := hb3.size
    clear hr3 hb3 hx3 hl3e HR2 HB2 HS2 HX hl2'
    go_wp2
    refine Txt.SegPost.mk (Txt.Ty.Shown.same HS3.out) ?_
    (try simp only [Txt.pick, List.getElem?_cons_succ, List.getElem?_cons_zero])
    go_wp2
    refine Txt.RunPost.mk ?_
    refine Txt.Ty.wpTr_done (by rfl) ⟨.head _, trivial⟩ ?_
    clear HS3 HS0
    obtain ⟨a3, c3, rfl⟩ := own_slice HR3.out
    have hfl : Wi.fits (x.hs.length : Int) := by unfold Wi.fits; omega
    have Hfl := Lib.hid hfl; clear hfl
    go_wp2_with fail
    refine (wint_any _ l3 (x.hs.length : Int) y0.heap.size _ Hfl.out (by omega) HR3.out hs3).mono ?_
    rintro e w4 ⟨v4, rfl, hg4⟩
    have hbel4 := hg4.below HR3.out (Nat.le_refl _) hs3 HB3.out
    have HR4 := Lib.hid hg4.row
    have hx4 : S < y0.heap.size := hSl
    have hS4 : w4.heap[S]? = some (.cells #[.int .i64 x.r, .slice a x.wt.length cap, .slice ha x.hs.length hc] 41 (0, 0)) := by
      refine (hg4.keep.block S (by omega) (fun hm => ?_)).trans HX3.out
      have := (HR3.out.lt _ (by simpa using hm)).1; omega
    have o2 := box_at hS4 (j := 2) rfl
    have HB4 := Lib.hid hbel4
    clear hg4 hS4 hbel4 HR3 HB3 HX3 o1 hs3
    go_wp2
    obtain ⟨l0, hl0⟩ : ∃ l0, l3 ++ Wi.encI x.hs.length = l0 := ⟨_, rfl⟩
    have hl0n : l0.length ≤ 100100 := by rw [← hl0, List.length_append]; have := encI_len Hfl.out; omega
    rw [hl0] at HR4
    have HL0 := Lib.hid hl0
    clear hl0 o2 hl3
    go_loopw [3, 25] (fun bv i wr => ∃ k : Nat, k ≤ x.hs.length ∧ i = .int .i64 k ∧ BRow 5 wr y0.heap.size bv (l0 ++ (x.hs.take k).flatMap encHb) ∧ Below y0.heap.size y0 wr) (fun _ i _ => x.hs.length - (intOf i).toNat)
    case atStart => exact ⟨0, Nat.zero_le _, rfl, by simpa using HR4.out, HB4.out⟩
    case round =>
      clear HR4 HB4
      obtain ⟨k, hk, rfl, hrow, hbel⟩ := hrel
      have hsz := hbel.size
      have hfk := encHs_flat (l := x.hs.take k) (fun x hx => F3.out x (List.mem_of_mem_take hx))
      have hacc : (l0 ++ (x.hs.take k).flatMap encHb).length ≤ 200000 := by
        rw [List.length_append]
        have : (x.hs.take k).length ≤ x.hs.length := by simp; omega
        omega
      obtain ⟨acc, hac⟩ : ∃ acc, l0 ++ (x.hs.take k).flatMap encHb = acc := ⟨_, rfl⟩
      rw [hac] at hrow hacc
      have Hac := Lib.hid hac; clear hac
      obtain ⟨ra, rc, rfl⟩ := own_slice hrow
      have HR := Lib.hid hrow
      have HBl := Lib.hid hbel
      clear hrow hfk
      by_cases hlt : k < x.hs.length
      · obtain ⟨b, off, rfl, hb, e0, e1, e2⟩ := (SlH.below HY2.out hbel).elem hlt
        have htf := take_hs hlt
        have hfz := F3.out _ (hs_mem.2 ⟨k, hlt, rfl⟩)
        obtain ⟨z, hz⟩ : ∃ z, hsAt x.hs k = z := ⟨_, rfl⟩
        rw [hz] at e0 e1 e2 htf hfz
        have Htf := Lib.hid htf; have Hfz := Lib.hid hfz; clear htf hfz hz
        obtain ⟨X, hX⟩ : ∃ X, X = wr.heap.size := ⟨_, rfl⟩
        obtain ⟨wa, hwa⟩ : ∃ W, W = wr.alloc (.cells #[.int .i64 z.t, .int .i64 z.n, .int .i64 z.c] 68) := ⟨_, rfl⟩
        have hal : Below wr.heap.size wr wa := by rw [hwa]; exact (Below.refl _ wr).alloc (Nat.le_refl _) _
        have HX : Hid (wa.heap[X]? = some (.cells #[.int .i64 z.t, .int .i64 z.n, .int .i64 z.c] 68 (0, 0))) := Lib.hid (by rw [hwa, hX]; exact heap_alloc_new wr _)
        have HWA := Lib.hid hwa; have HXE := Lib.hid hX
        have HR1 := Lib.hid (HR.out.below hal)
        have HbA := Lib.hid (HBl.out.trans (hal.mono hsz))
        have hx0 : X ∉ (Value.ownBlock (.slice ra acc.length rc)).toList := fun hm => by have := (HR.out.lt _ (by simpa using hm)).2; omega
        have Hx0 := Lib.hid hx0
        clear hal hx0 hwa hX
        go_upto_region 8 with (fail)
        rw [← HWA.out, ← HXE.out]
        clear HWA HXE HR HBl e0 e1 e2 hbel hsz
        have hBl := show ∀ q ∈ [X], ∃ cc e f, wa.heap[q]? = some (.cells cc e f) from fun q hq => by rw [List.mem_singleton.1 hq]; exact ⟨_, _, _, HX.out⟩
        refine Txt.Ty.wp_tree [X] [5, 8] [] [2, 5, 8] [0, 1, 2, 4, 5, 7, 8] (.alt [3] (.alt [6] (.alt [9, 10] (.done) (.no)) (.no)) (.no)) (by kernel_rfl) (by kernel_rfl) (by kernel_rfl) (by kernel_rfl) hBl ?_
        obtain ⟨y1, hy1⟩ : ∃ y, y = wa.drew := ⟨_, rfl⟩
        have HS0 : Hid (Txt.SameB [X] y1 y1) := Lib.hid (by rw [hy1]; exact same_start hBl)
        clear hBl
        rw [← hy1]
        have hd : Below wa.heap.size wa y1 := by rw [hy1]; exact (Below.refl _ _).drew
        have HRd := Lib.hid (HR1.out.below hd)
        have HbD := Lib.hid (HbA.out.trans (hd.mono HbA.out.size))
        have hx := (hd.block X (Array.getElem?_eq_some_iff.1 HX.out).1).trans HX.out
        have x0 : y1.cell? ⟨X, 0, none⟩ = some (.int .i64 z.t) := box_at hx rfl
        have x1 : y1.cell? ⟨X, 1, none⟩ = some (.int .i64 z.n) := box_at hx rfl
        have x2 : y1.cell? ⟨X, 2, none⟩ = some (.int .i64 z.c) := box_at hx rfl
        have HXd := Lib.hid hx
        clear hx hd hy1 HR1 HbA HX
        have notin : ∀ (wz : World) (v : Value) (l : List UInt8), Txt.SameB [X] y1 wz → BRow 5 wz y0.heap.size v l → X ∉ v.ownBlock.toList := fun wz v l hs hr hm => by
          obtain ⟨cur, hc⟩ := RowF.type (.inl hr) (r := X) (by simpa using hm)
          rw [((hs X (by simp)).2).symm.symm] at hc
          rw [HXd.out] at hc
          cases hc
        have HN := Lib.hid notin
        clear notin
        (try simp only [Txt.pick, List.getElem?_cons_succ, List.getElem?_cons_zero])
        go_wp2
        refine Txt.RunPost.mk ?_
        refine Txt.Ty.wpTr_alt ?_ Txt.Ty.wpTr_no
        (try simp only [Txt.pick, List.getElem?_cons_succ, List.getElem?_cons_zero])
        go_wp2_with fail
        refine (wint_any _ acc z.t y0.heap.size _ Hfz.out.1 (by have := encI_len Hfz.out.1; have := encI_len Hfz.out.2.1; (try simp only [List.length_append]); omega) HRd.out HbD.out.size).mono ?_
        rintro e w6 ⟨v6, rfl, hg6⟩
        have HS6 := Lib.hid (same_keep HS0.out hg6.keep (fun q hq => by rw [List.mem_singleton.1 hq]; exact Hx0.out))
        have HB6 := Lib.hid (hg6.below HRd.out (Nat.le_refl _) HbD.out.size HbD.out)
        have HR6 := Lib.hid hg6.row
        clear hg6
        go_wp2
        refine Txt.SegPost.mk (Txt.Ty.Shown.same HS6.out) ?_
        (try simp only [Txt.pick, List.getElem?_cons_succ, List.getElem?_cons_zero])
        go_wp2
        refine Txt.RunPost.mk ?_
        refine Txt.Ty.wpTr_alt ?_ Txt.Ty.wpTr_no
        (try simp only [Txt.pick, List.getElem?_cons_succ, List.getElem?_cons_zero])
        go_wp2_with fail
        refine (wint_any _ (acc ++ Wi.encI z.t) z.n y0.heap.size _ Hfz.out.2.1 (by have := encI_len Hfz.out.1; have := encI_len Hfz.out.2.1; (try simp only [List.length_append]); omega) HR6.out HB6.out.size).mono ?_
        rintro e w7 ⟨v7, rfl, hg7⟩
        have HS7 := Lib.hid (same_keep HS6.out hg7.keep (fun q hq => by rw [List.mem_singleton.1 hq]; exact HN.out _ _ _ HS6.out HR6.out))
        have HB7 := Lib.hid (hg7.below HR6.out (Nat.le_refl _) HB6.out.size HB6.out)
        have HR7 := Lib.hid hg7.row
        clear hg7
        go_wp2
        refine Txt.SegPost.mk (Txt.Ty.Shown.same HS7.out) ?_
        (try simp only [Txt.pick, List.getElem?_cons_succ, List.getElem?_cons_zero])
        go_wp2
        refine Txt.RunPost.mk ?_
        refine Txt.Ty.wpTr_alt ?_ Txt.Ty.wpTr_no
        (try simp only [Txt.pick, List.getElem?_cons_succ, List.getElem?_cons_zero])
        go_wp2_with fail
        refine (wint_any _ ((acc ++ Wi.encI z.t) ++ Wi.encI z.n) z.c y0.heap.size _ Hfz.out.2.2 (by have := encI_len Hfz.out.1; have := encI_len Hfz.out.2.1; (try simp only [List.length_append]); omega) HR7.out HB7.out.size).mono ?_
        rintro e w8 ⟨v8, rfl, hg8⟩
        have HS8 := Lib.hid (same_keep HS7.out hg8.keep (fun q hq => by rw [List.mem_singleton.1 hq]; exact HN.out _ _ _ HS7.out HR7.out))
        have HB8 := Lib.hid (hg8.below HR7.out (Nat.le_refl _) HB7.out.size HB7.out)
        have HR8 := Lib.hid hg8.row
        clear hg8
        go_wp2
        refine Txt.SegPost.mk (Txt.Ty.Shown.same HS8.out) ?_
        (try simp only [Txt.pick, List.getElem?_cons_succ, List.getElem?_cons_zero])
        go_wp2
        refine Txt.RunPost.mk ?_
        refine Txt.Ty.wpTr_done (by rfl) ⟨.head _, .head _, trivial⟩ ?_
        have hrow8 : BRow 5 w8 y0.heap.size v8 (l0 ++ (x.hs.take (k + 1)).flatMap encHb) := by
          rw [Htf.out, ← List.append_assoc, Hac.out]
          have := HR8.out
          simpa [encHb] using this
        have HR9 := Lib.hid hrow8
        clear hrow8 x0 x1 x2
        go_wp2
        go_roundw
        case rel => exact ⟨k + 1, hlt, by go_num, HR9.out, HB8.out⟩
        case measure => simp [intOf]; omega
      · obtain rfl : k = x.hs.length := by omega
        rw [List.take_length] at Hac
        go_wp2
        go_ret
        rw [He.out]
        refine ⟨_, rfl, ?_, HbY.out.trans (HBl.out.mono HbY.out.size)⟩
        have e : encVb x = acc := by rw [← Hac.out, ← HL0.out, ← HL3.out]; simp [encVb]
        rw [e]
        exact own_base HR.out HbY.out.size
end Go.Proofs.YthmnhpakgjnngaaGreatDoor
