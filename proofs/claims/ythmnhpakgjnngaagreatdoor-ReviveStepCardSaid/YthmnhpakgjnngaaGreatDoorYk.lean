/- Revive: the reference's encoders -/
import Derived.Test.YthmnhpakgjnngaaGreatDoorXa
import Derived.Test.YthmnhpakgjnngaaGreatDoorYi
import Derived.Deep.CutRange
import Derived.WalkMore
namespace Go.Rv
open Go Go.RowKit Go.Bs Go.Cl Go.Rw Go.Dt Go.Wi
theorem brow_app {e m : Nat} {w : World} {base : Nat} {v : Value} {l1 l2 : List UInt8} (hm : m = l2.length) (h : w.ownsRow base e 1 v (l1.length + m) (bytesV l1 ++ bytesV l2)) : BRow e w base v (l1 ++ l2) := by
  subst hm
  show w.ownsRow base e 1 v (l1 ++ l2).length (bytesV (l1 ++ l2))
  rw [List.length_append, bytesV_append]; exact h
end Go.Rv
namespace Go.Proofs.YthmnhpakgjnngaaGreatDoor
open Go.RowKit Go.Bs Go.Cl Go.Rw Go.Dt Go.Rv Go.Wi
set_option maxRecDepth 100000 in
set_option maxHeartbeats 4000000 in
theorem rints_any (v : Value) (l : List Int) (w : World) (hl : l.length ≤ 1000) (h : Ints [] w v l) (hf : ∀ x ∈ l, Wi.fits x) :
    Calls Tryz.prog 38 #[v] w fun e w' => ∃ v', e = .returned v' ∧ BRow 5 w' w.heap.size v' (encIs l) ∧ Below w.heap.size w w' := by
  obtain ⟨a, cap, rfl⟩ := Raw.slice h
  have H := Lib.hid h; clear h
  have HF := Lib.hid hf; clear hf
  have hfl : Wi.fits (l.length : Int) := by unfold Wi.fits; omega
  have Hfl := Lib.hid hfl; clear hfl
  go_enter Tryz.func38, Tryz.ntmps38
  go_wp2_with fail
  refine (rint_any (l.length : Int) _ Hfl.out).mono ?_
  rintro e w2 ⟨v2, rfl, hr2, hbel2⟩
  have HR2 := Lib.hid hr2
  clear hr2
  go_wp2
  go_loopw [3, 4] (fun bv i wr => ∃ k : Nat, k ≤ l.length ∧ i = .int .i64 k ∧ BRow 5 wr w.heap.size bv (Wi.encI l.length ++ (l.take k).flatMap Wi.encI) ∧ Below w.heap.size w wr) (fun _ i _ => l.length - (intOf i).toNat)
  case atStart => exact ⟨0, Nat.zero_le _, rfl, by simpa using HR2.out, hbel2⟩
  case round =>
    obtain ⟨k, hk, rfl, hrow, hbel⟩ := hrel
    have hsz := hbel.size
    have hfk := encIs_flat (l := l.take k) (fun x hx => HF.out x (List.mem_of_mem_take hx))
    have hel := encI_len Hfl.out
    have hacc : (Wi.encI l.length ++ (l.take k).flatMap Wi.encI).length ≤ 900000 := by
      rw [List.length_append]
      have : (l.take k).length ≤ l.length := by simp; omega
      omega
    obtain ⟨acc, hac⟩ : ∃ acc, Wi.encI l.length ++ (l.take k).flatMap Wi.encI = acc := ⟨_, rfl⟩
    rw [hac] at hrow hacc
    have Hac := Lib.hid hac; clear hac
    obtain ⟨ra, rc, rfl⟩ := own_slice hrow
    have HR := Lib.hid hrow
    clear hrow hfk hel
    by_cases hlt : k < l.length
    · obtain ⟨b, off, cp, hav, hb, h0⟩ := Ints.elem (Raw.below H.out hbel) hlt
      cases hav
      have htf := take_ints hlt
      have hfz := HF.out _ (List.getElem_mem hlt)
      obtain ⟨z, hz⟩ : ∃ z, l[k] = z := ⟨_, rfl⟩
      rw [hz] at h0 htf hfz
      have Htf := Lib.hid htf; have Hfz := Lib.hid hfz; clear htf hfz hz
      go_wp2_with fail
      refine (rint_any z _ Hfz.out).mono ?_
      rintro e w5 ⟨v5, rfl, hr5, hb5⟩
      have hbel5 := hbel.trans (hb5.mono hbel.size)
      have HR5 := Lib.hid (BRow.below HR.out hb5)
      have HX5 := Lib.hid (BRow.bytes (F := []) hr5 (fun f hf => by cases hf))
      obtain ⟨a5, c5', rfl⟩ := own_slice hr5
      have hl5 : (Wi.encI z).length ≤ 120 := by have := encI_len Hfz.out; omega
      clear hr5 hb5 h0
      go_wp2_with (at_builtin; refine wpList_appF elB Tryz.underlying28 HR5.out HX5.out hbel5 rfl _ _ rfl rfl rfl ?c3 ?cB ?c5 ?_)
      all_goals try (first | exact Nat.le_refl _ | omega | exact hbel5.size)
      intro v6 w6 hown6 hbel6 hk6 hn6
      have hrow6 := brow_app rfl hown6
      clear hown6 hk6 hn6
      have hrow6' : BRow 5 w6 w.heap.size v6 (Wi.encI l.length ++ (l.take (k + 1)).flatMap Wi.encI) := by
        rw [Htf.out, ← List.append_assoc, Hac.out]; exact hrow6
      have HR6 := Lib.hid hrow6'
      clear hrow6 hrow6'
      go_wp2
      go_roundw
      case rel => exact ⟨k + 1, hlt, by go_num, HR6.out, hbel6⟩
      case measure => simp [intOf]; omega
    · obtain rfl : k = l.length := by omega
      rw [List.take_length] at Hac
      go_wp2
      go_ret
      unfold encIs
      rw [Hac.out]
      exact ⟨_, rfl, HR.out, hbel⟩
set_option maxRecDepth 100000 in
set_option maxHeartbeats 16000000 in
theorem rencode_any (x : Sv) (wv hv : Value) (w : World) (hl1 : x.wt.length ≤ 1000) (hl2 : x.hs.length ≤ 1000) (h1 : Ints [] w wv x.wt) (h2 : SlH w hv x.hs) :
    Calls Tryz.prog 15 #[.agg #[.int .i64 x.r, wv, hv]] w fun e w' => ∃ v, e = .returned v ∧ BRow 5 w' w.heap.size v (encV x) ∧ Below w.heap.size w w' := by
  obtain ⟨a, cap, rfl⟩ := Raw.slice h1
  obtain ⟨ha, hc, rfl⟩ := Raw.slice h2
  obtain ⟨W, hW⟩ : ∃ W, W = w.alloc (.cells #[.int .i64 x.r, .slice a x.wt.length cap, .slice ha x.hs.length hc] 27) := ⟨_, rfl⟩
  have hb : Below w.heap.size w W := by rw [hW]; exact (Below.refl w.heap.size w).alloc (Nat.le_refl _) _
  have hx : W.heap[w.heap.size]? = some (.cells #[.int .i64 x.r, .slice a x.wt.length cap, .slice ha x.hs.length hc] 27 (0, 0)) := by rw [hW]; exact heap_alloc_new w _
  have H1 := Lib.hid (Raw.below h1 hb); have H2 := Lib.hid (Raw.below h2 hb)
  have Hb := Lib.hid hb; have HW := Lib.hid hW
  have o0 := box_at hx (j := 0) rfl
  have o1 := box_at hx (j := 1) rfl
  have o2 := box_at hx (j := 2) rfl
  have Hx := Lib.hid hx
  clear h1 h2 hb hx hW
  go_enter Tryz.func15, Tryz.ntmps15
  go_upto_region 1 with (fail)
  rw [← HW.out]
  clear HW
  obtain ⟨S, hS⟩ : ∃ S, S = w.heap.size := ⟨_, rfl⟩
  rw [← hS] at o0 o1 o2 Hx ⊢
  have HSe := Lib.hid hS; clear hS
  go_wp2_with fail
  refine (rvalidV_any x _ _ W hl1 hl2 H1.out H2.out).mono ?_
  rintro e w1 ⟨rfl, hb1⟩
  have hxl := (Array.getElem?_eq_some_iff.1 Hx.out).1
  have Hb1 := Lib.hid (Hb.out.trans (hb1.mono Hb.out.size))
  have hx1 := (hb1.block _ hxl).trans Hx.out
  have H11 := Lib.hid (Raw.below H1.out hb1); have H12 := Lib.hid (Raw.below H2.out hb1)
  clear hb1 o0 o1 o2 H1 H2 Hx hxl Hb
  have Hx1 := Lib.hid hx1; clear hx1
  cases hv : validV x
  · have He : Hid (encV x = []) := Lib.hid (encV_false hv)
    clear hv
    go_wp2
    go_ret
    rw [He.out]
    exact ⟨_, rfl, brow_nil _ _ _, by have := HSe.out; exact Hb1.out⟩
  · have hok := validV_iff.1 hv
    have He := Lib.hid (encV_true hok)
    obtain ⟨f1, f2, f3⟩ := vok_fits hok
    have g1 := hok.len
    have g2 := validH_len hok.h
    have F1 := Lib.hid f1; have F2 := Lib.hid f2; have F3 := Lib.hid f3
    clear hv f1 f2 f3 hok
    go_upto_region 3 with (fail)
    have hBl := show ∀ q ∈ [S], ∃ cc e f, w1.heap[q]? = some (.cells cc e f) from fun q hq => by rw [List.mem_singleton.1 hq]; exact ⟨_, _, _, Hx1.out⟩
    refine Txt.Ty.wp_tree [S] [6] [] [2, 6] [0, 1, 2, 4, 5, 6] (.alt [3] (.alt [7] (.alt [8, 9] (.done) (.no)) (.no)) (.no)) (by kernel_rfl) (by kernel_rfl) (by kernel_rfl) (by kernel_rfl) hBl ?_
    obtain ⟨y0, hy0⟩ : ∃ y, y = w1.drew := ⟨_, rfl⟩
    have HS0 : Hid (Txt.SameB [S] y0 y0) := Lib.hid (by rw [hy0]; exact same_start hBl)
    clear hBl
    rw [← hy0]
    have hd : Below w1.heap.size w1 y0 := by rw [hy0]; exact (Below.refl _ _).drew
    have HY1 := Lib.hid (Raw.below H11.out hd)
    have HY2 := Lib.hid (Raw.below H12.out hd)
    have HbY := Lib.hid (Hb1.out.trans (hd.mono Hb1.out.size))
    have hx := (hd.block S (Array.getElem?_eq_some_iff.1 Hx1.out).1).trans Hx1.out
    have hSl := (Array.getElem?_eq_some_iff.1 hx).1
    have o0 := box_at hx (j := 0) rfl
    have o1 := box_at hx (j := 1) rfl
    have HX := Lib.hid hx
    clear hx hd hy0 H11 H12 Hb1 Hx1
    (try simp only [Txt.pick, List.getElem?_cons_succ, List.getElem?_cons_zero])
    go_wp2
    refine Txt.RunPost.mk ?_
    refine Txt.Ty.wpTr_alt ?_ Txt.Ty.wpTr_no
    (try simp only [Txt.pick, List.getElem?_cons_succ, List.getElem?_cons_zero])
    go_wp2_with fail
    refine (rint_any x.r _ F1.out).mono ?_
    rintro e w2 ⟨v2, rfl, hr2, hb2⟩
    obtain ⟨a2, c2, rfl⟩ := own_slice hr2
    have HS2 := Lib.hid (same_below' HS0.out hb2)
    have HR2 := Lib.hid hr2
    have HB2 := Lib.hid hb2
    have HT2 := Lib.hid (Raw.below HY1.out hb2)
    have hl2' : (Wi.encI x.r).length ≤ 10 := encI_len F1.out
    clear hr2 hb2 o0 o1
    go_wp2
    refine Txt.SegPost.mk (Txt.Ty.Shown.same HS2.out) ?_
    (try simp only [Txt.pick, List.getElem?_cons_succ, List.getElem?_cons_zero])
    go_wp2
    refine Txt.RunPost.mk ?_
    refine Txt.Ty.wpTr_alt ?_ Txt.Ty.wpTr_no
    (try simp only [Txt.pick, List.getElem?_cons_succ, List.getElem?_cons_zero])
    go_wp2_with fail
    refine (rints_any _ x.wt w2 hl1 HT2.out F2.out).mono ?_
    rintro e w3 ⟨v3, rfl, hr3, hb3⟩
    have HS3 := Lib.hid (same_below' HS2.out hb3)
    have HX3 := Lib.hid (BRow.bytes (F := []) hr3 (fun f hf => by cases hf))
    obtain ⟨a3, c3, rfl⟩ := own_slice hr3
    have HR3 := Lib.hid (BRow.below HR2.out hb3)
    have HB3 := Lib.hid (HB2.out.trans (hb3.mono HB2.out.size))
    have hl3' : (encIs x.wt).length ≤ 10010 := encIs_len F2.out hl1
    have hb3y := HB3.out.size
    clear hr3 hb3 HR2 HB2 HS2 HT2
    go_wp2
    refine Txt.SegPost.mk (Txt.Ty.Shown.same HS3.out) ?_
    (try simp only [Txt.pick, List.getElem?_cons_succ, List.getElem?_cons_zero])
    go_wp2
    refine Txt.RunPost.mk ?_
    refine Txt.Ty.wpTr_alt ?_ Txt.Ty.wpTr_no
    (try simp only [Txt.pick, List.getElem?_cons_succ, List.getElem?_cons_zero])
    go_wp2_with (at_builtin; refine wpList_appF elB Tryz.underlying28 HR3.out HX3.out HB3.out rfl _ _ rfl rfl rfl ?p3 ?pB ?p5 ?_)
    all_goals try (first | exact Nat.le_refl _ | omega | exact hb3y)
    intro v4 w4 hown4 hbel4 hk4 hn4
    have hrow4 : BRow 5 w4 y0.heap.size v4 (Wi.encI x.r ++ encIs x.wt) := brow_app rfl hown4
    have HS4 := Lib.hid (same_keep HS3.out hk4 (fun q hq hm => by have := (HR3.out.lt q (by simpa using hm)).1; rw [List.mem_singleton] at hq; omega))
    obtain ⟨l3, hl3e⟩ : ∃ l3, Wi.encI x.r ++ encIs x.wt = l3 := ⟨_, rfl⟩
    have hl3 : l3.length ≤ 100000 := by rw [← hl3e, List.length_append]; omega
    rw [hl3e] at hrow4
    have HL3 := Lib.hid hl3e
    obtain ⟨a4, c4, rfl⟩ := own_slice hrow4
    have HR4 := Lib.hid hrow4
    have HB4 := Lib.hid hbel4
    have hs4 := hbel4.size
    have hx4 := (hbel4.block S hSl).trans HX.out
    have o2 := box_at hx4 (j := 2) rfl
    clear hown4 hk4 hn4 hrow4 hl3e hbel4 HR3 HX3 HB3 HS3 hl2' hl3' hb3y hx4
    go_wp2
    refine Txt.SegPost.mk (Txt.Ty.Shown.same HS4.out) ?_
    (try simp only [Txt.pick, List.getElem?_cons_succ, List.getElem?_cons_zero])
    go_wp2
    refine Txt.RunPost.mk ?_
    refine Txt.Ty.wpTr_done (by rfl) ⟨.head _, trivial⟩ ?_
    clear HS4 HS0
    have hfl : Wi.fits (x.hs.length : Int) := by unfold Wi.fits; omega
    have Hfl := Lib.hid hfl; clear hfl
    go_wp2_with fail
    refine (rint_any (x.hs.length : Int) _ Hfl.out).mono ?_
    rintro e w5 ⟨v5, rfl, hr5, hb5⟩
    have HX5 := Lib.hid (BRow.bytes (F := []) hr5 (fun f hf => by cases hf))
    obtain ⟨a5, c5, rfl⟩ := own_slice hr5
    have HR5 := Lib.hid (BRow.below HR4.out hb5)
    have HB5 := Lib.hid (HB4.out.trans (hb5.mono HB4.out.size))
    have hl5' : (Wi.encI (x.hs.length : Int)).length ≤ 10 := encI_len Hfl.out
    have hb5y := HB5.out.size
    clear hr5 hb5 HR4 HB4 hs4 o2
    go_wp2_with (at_builtin; refine wpList_appF elB Tryz.underlying28 HR5.out HX5.out HB5.out rfl _ _ rfl rfl rfl ?q3 ?qB ?q5 ?_)
    all_goals try (first | exact Nat.le_refl _ | omega | exact hb5y)
    intro v6 w6 hown6 hbel6 hk6 hn6
    have hrow6 : BRow 5 w6 y0.heap.size v6 (l3 ++ Wi.encI x.hs.length) := brow_app rfl hown6
    obtain ⟨l0, hl0⟩ : ∃ l0, l3 ++ Wi.encI x.hs.length = l0 := ⟨_, rfl⟩
    have hl0n : l0.length ≤ 100100 := by rw [← hl0, List.length_append]; omega
    rw [hl0] at hrow6
    have HR6 := Lib.hid hrow6
    have HB6 := Lib.hid hbel6
    have HL0 := Lib.hid hl0
    clear hown6 hbel6 hk6 hn6 hrow6 hl0 HR5 HX5 HB5 hl5' hb5y
    go_wp2
    go_loopw [3, 4] (fun bv i wr => ∃ k : Nat, k ≤ x.hs.length ∧ i = .int .i64 k ∧ BRow 5 wr y0.heap.size bv (l0 ++ (x.hs.take k).flatMap encHb) ∧ Below y0.heap.size y0 wr) (fun _ i _ => x.hs.length - (intOf i).toNat)
    case atStart => exact ⟨0, Nat.zero_le _, rfl, by simpa using HR6.out, HB6.out⟩
    case round =>
      clear HR6 HB6
      obtain ⟨k, hk, rfl, hrow, hbel⟩ := hrel
      have hsz := hbel.size
      have hfk := encHs_flat (l := x.hs.take k) (fun x hx => F3.out x (List.mem_of_mem_take hx))
      have hacc : (l0 ++ (x.hs.take k).flatMap encHb).length ≤ 200000 := by
        rw [List.length_append]
        have : (x.hs.take k).length ≤ x.hs.length := by simp; omega
        omega
      obtain ⟨acc, hac⟩ : ∃ acc, l0 ++ (x.hs.take k).flatMap encHb = acc := ⟨_, rfl⟩
      rw [hac] at hrow hacc
      have Hac := Lib.hid hac; clear hac
      obtain ⟨ra, rc, rfl⟩ := own_slice hrow
      have HR := Lib.hid hrow
      have HBl := Lib.hid hbel
      have hs2 := (hbel.block S hSl).trans HX.out
      have o2 := box_at hs2 (j := 2) rfl
      clear hrow hfk hs2
      by_cases hlt : k < x.hs.length
      · obtain ⟨b, off, rfl, hb, e0, e1, e2⟩ := (SlH.below HY2.out hbel).elem hlt
        have htf := take_hs hlt
        have hfz := F3.out _ (hs_mem.2 ⟨k, hlt, rfl⟩)
        obtain ⟨z, hz⟩ : ∃ z, hsAt x.hs k = z := ⟨_, rfl⟩
        rw [hz] at e0 e1 e2 htf hfz
        have Htf := Lib.hid htf; have Hfz := Lib.hid hfz; clear htf hfz hz
        obtain ⟨X, hX⟩ : ∃ X, X = wr.heap.size := ⟨_, rfl⟩
        obtain ⟨wa, hwa⟩ : ∃ W, W = wr.alloc (.cells #[.int .i64 z.t, .int .i64 z.n, .int .i64 z.c] 74) := ⟨_, rfl⟩
        have hal : Below wr.heap.size wr wa := by rw [hwa]; exact (Below.refl _ wr).alloc (Nat.le_refl _) _
        have HXb : Hid (wa.heap[X]? = some (.cells #[.int .i64 z.t, .int .i64 z.n, .int .i64 z.c] 74 (0, 0))) := Lib.hid (by rw [hwa, hX]; exact heap_alloc_new wr _)
        have HWA := Lib.hid hwa; have HXE := Lib.hid hX
        have HR1 := Lib.hid (HR.out.below hal)
        have HbA := Lib.hid (HBl.out.trans (hal.mono hsz))
        have hx0 : X ∉ (Value.ownBlock (.slice ra acc.length rc)).toList := fun hm => by have := (HR.out.lt _ (by simpa using hm)).2; omega
        have Hx0 := Lib.hid hx0
        clear hal hx0 hwa hX
        go_upto_region 9 with (fail)
        rw [← HWA.out, ← HXE.out]
        clear HWA HXE HR HBl e0 e1 e2 hbel hsz o2
        have hBl := show ∀ q ∈ [X], ∃ cc e f, wa.heap[q]? = some (.cells cc e f) from fun q hq => by rw [List.mem_singleton.1 hq]; exact ⟨_, _, _, HXb.out⟩
        refine Txt.Ty.wp_tree [X] [6] [] [2, 6] [0, 1, 2, 5, 6] (.alt [3] (.alt [4] (.alt [7] (.alt [8, 9] (.done) (.no)) (.no)) (.no)) (.no)) (by kernel_rfl) (by kernel_rfl) (by kernel_rfl) (by kernel_rfl) hBl ?_
        obtain ⟨y1, hy1⟩ : ∃ y, y = wa.drew := ⟨_, rfl⟩
        have HS0 : Hid (Txt.SameB [X] y1 y1) := Lib.hid (by rw [hy1]; exact same_start hBl)
        clear hBl
        rw [← hy1]
        have hd : Below wa.heap.size wa y1 := by rw [hy1]; exact (Below.refl _ _).drew
        have HRd := Lib.hid (HR1.out.below hd)
        have HbD := Lib.hid (HbA.out.trans (hd.mono HbA.out.size))
        have hx := (hd.block X (Array.getElem?_eq_some_iff.1 HXb.out).1).trans HXb.out
        have x0 : y1.cell? ⟨X, 0, none⟩ = some (.int .i64 z.t) := box_at hx rfl
        have x1 : y1.cell? ⟨X, 1, none⟩ = some (.int .i64 z.n) := box_at hx rfl
        have HXd := Lib.hid hx
        have hXl := (Array.getElem?_eq_some_iff.1 hx).1
        clear hx hd hy1 HR1 HbA HXb
        have notin : ∀ (wz : World) (v : Value) (l : List UInt8), Txt.SameB [X] y1 wz → BRow 5 wz y0.heap.size v l → X ∉ v.ownBlock.toList := fun wz v l hs hr hm => by
          obtain ⟨cur, hc⟩ := RowF.type (.inl hr) (r := X) (by simpa using hm)
          rw [((hs X (by simp)).2).symm.symm] at hc
          rw [HXd.out] at hc
          cases hc
        have HN := Lib.hid notin
        clear notin
        have hlz : (Wi.encI z.t).length ≤ 10 := encI_len Hfz.out.1
        have hln : (Wi.encI z.n).length ≤ 10 := encI_len Hfz.out.2.1
        have hlc : (Wi.encI z.c).length ≤ 10 := encI_len Hfz.out.2.2
        (try simp only [Txt.pick, List.getElem?_cons_succ, List.getElem?_cons_zero])
        go_wp2
        refine Txt.RunPost.mk ?_
        refine Txt.Ty.wpTr_alt ?_ Txt.Ty.wpTr_no
        (try simp only [Txt.pick, List.getElem?_cons_succ, List.getElem?_cons_zero])
        go_wp2_with fail
        refine (rint_any z.t _ Hfz.out.1).mono ?_
        rintro e w10 ⟨v10, rfl, hr10, hb10⟩
        have HX10 := Lib.hid (BRow.bytes (F := []) hr10 (fun f hf => by cases hf))
        obtain ⟨a10, c10, rfl⟩ := own_slice hr10
        have HR10 := Lib.hid (BRow.below HRd.out hb10)
        have HB10 := Lib.hid (HbD.out.trans (hb10.mono HbD.out.size))
        have hby10 := HB10.out.size
        have HS10 := Lib.hid (same_below' HS0.out hb10)
        clear hr10 hb10 HRd HbD
        go_wp2
        refine Txt.SegPost.mk (Txt.Ty.Shown.same HS10.out) ?_
        (try simp only [Txt.pick, List.getElem?_cons_succ, List.getElem?_cons_zero])
        go_wp2
        refine Txt.RunPost.mk ?_
        refine Txt.Ty.wpTr_alt ?_ Txt.Ty.wpTr_no
        (try simp only [Txt.pick, List.getElem?_cons_succ, List.getElem?_cons_zero])
        go_wp2_with (at_builtin; refine wpList_appF elB Tryz.underlying28 HR10.out HX10.out HB10.out rfl _ _ rfl rfl rfl ?r10 ?s10 ?t10 ?_)
        all_goals try (first | exact Nat.le_refl _ | (simp only [List.length_append] at *; omega) | omega | exact hby10)
        intro v11 w11 hown11 hbel11 hk11 hn11
        obtain ⟨b11, d11, rfl⟩ := own_slice hown11
        obtain ⟨l11, hl11⟩ : ∃ l, acc ++ Wi.encI z.t = l := ⟨_, rfl⟩
        have hrow11 : BRow 5 w11 y0.heap.size (.slice b11 (acc.length + (Wi.encI z.t).length) d11) (acc ++ Wi.encI z.t) := brow_app rfl hown11
        have hll11 : acc.length + (Wi.encI z.t).length = l11.length := by rw [← hl11, List.length_append]
        have hlm11 : l11.length ≤ 200020 := by omega
        rw [hl11, hll11] at hrow11
        rw [hll11]
        have HLE11 := Lib.hid hl11
        have HR11 := Lib.hid hrow11
        have HB11 := Lib.hid hbel11
        have HS11 := Lib.hid (same_keep HS10.out hk11 (fun q hq => by rw [List.mem_singleton.1 hq]; exact HN.out _ _ _ HS10.out HR10.out))
        clear hown11 hbel11 hk11 hn11 hrow11 hl11 hll11 HR10 HX10 HB10 hby10
        go_wp2
        refine Txt.SegPost.mk (Txt.Ty.Shown.same HS11.out) ?_
        (try simp only [Txt.pick, List.getElem?_cons_succ, List.getElem?_cons_zero])
        go_wp2
        refine Txt.RunPost.mk ?_
        refine Txt.Ty.wpTr_alt ?_ Txt.Ty.wpTr_no
        (try simp only [Txt.pick, List.getElem?_cons_succ, List.getElem?_cons_zero])
        go_wp2_with fail
        refine (rint_any z.n _ Hfz.out.2.1).mono ?_
        rintro e w12 ⟨v12, rfl, hr12, hb12⟩
        have HX12 := Lib.hid (BRow.bytes (F := []) hr12 (fun f hf => by cases hf))
        obtain ⟨a12, c12, rfl⟩ := own_slice hr12
        have HR12 := Lib.hid (BRow.below HR11.out hb12)
        have HB12 := Lib.hid (HB11.out.trans (hb12.mono HB11.out.size))
        have hby12 := HB12.out.size
        have HS12 := Lib.hid (same_below' HS11.out hb12)
        clear hr12 hb12 HR11 HB11
        go_wp2
        refine Txt.SegPost.mk (Txt.Ty.Shown.same HS12.out) ?_
        (try simp only [Txt.pick, List.getElem?_cons_succ, List.getElem?_cons_zero])
        go_wp2
        refine Txt.RunPost.mk ?_
        refine Txt.Ty.wpTr_alt ?_ Txt.Ty.wpTr_no
        (try simp only [Txt.pick, List.getElem?_cons_succ, List.getElem?_cons_zero])
        go_wp2_with (at_builtin; refine wpList_appF elB Tryz.underlying28 HR12.out HX12.out HB12.out rfl _ _ rfl rfl rfl ?r12 ?s12 ?t12 ?_)
        all_goals try (first | exact Nat.le_refl _ | (simp only [List.length_append] at *; omega) | omega | exact hby12)
        intro v13 w13 hown13 hbel13 hk13 hn13
        obtain ⟨b13, d13, rfl⟩ := own_slice hown13
        obtain ⟨l13, hl13⟩ : ∃ l, l11 ++ Wi.encI z.n = l := ⟨_, rfl⟩
        have hrow13 : BRow 5 w13 y0.heap.size (.slice b13 (l11.length + (Wi.encI z.n).length) d13) (l11 ++ Wi.encI z.n) := brow_app rfl hown13
        have hll13 : l11.length + (Wi.encI z.n).length = l13.length := by rw [← hl13, List.length_append]
        have hlm13 : l13.length ≤ 200040 := by omega
        rw [hl13, hll13] at hrow13
        rw [hll13]
        have HLE13 := Lib.hid hl13
        have HR13 := Lib.hid hrow13
        have HB13 := Lib.hid hbel13
        have HS13 := Lib.hid (same_keep HS12.out hk13 (fun q hq => by rw [List.mem_singleton.1 hq]; exact HN.out _ _ _ HS12.out HR12.out))
        clear hown13 hbel13 hk13 hn13 hrow13 hl13 hll13 HR12 HX12 HB12 hby12
        go_wp2
        refine Txt.SegPost.mk (Txt.Ty.Shown.same HS13.out) ?_
        (try simp only [Txt.pick, List.getElem?_cons_succ, List.getElem?_cons_zero])
        go_wp2
        refine Txt.RunPost.mk ?_
        refine Txt.Ty.wpTr_done (by rfl) ⟨.head _, trivial⟩ ?_
        have x2 : w13.cell? ⟨X, 2, none⟩ = some (.int .i64 z.c) := by
          have := (HS13.out X (by simp)).2
          exact box_at (this.trans HXd.out) (j := 2) rfl
        clear x0 x1
        go_wp2_with fail
        refine (rint_any z.c _ Hfz.out.2.2).mono ?_
        rintro e w14 ⟨v14, rfl, hr14, hb14⟩
        have HX14 := Lib.hid (BRow.bytes (F := []) hr14 (fun f hf => by cases hf))
        obtain ⟨a14, c14, rfl⟩ := own_slice hr14
        have HR14 := Lib.hid (BRow.below HR13.out hb14)
        have HB14 := Lib.hid (HB13.out.trans (hb14.mono HB13.out.size))
        have hby14 := HB14.out.size
        clear hr14 hb14 HR13 HB13
        go_wp2_with (at_builtin; refine wpList_appF elB Tryz.underlying28 HR14.out HX14.out HB14.out rfl _ _ rfl rfl rfl ?r14 ?s14 ?t14 ?_)
        all_goals try (first | exact Nat.le_refl _ | (simp only [List.length_append] at *; omega) | omega | exact hby14)
        intro v15 w15 hown15 hbel15 hk15 hn15
        obtain ⟨b15, d15, rfl⟩ := own_slice hown15
        obtain ⟨l15, hl15⟩ : ∃ l, l13 ++ Wi.encI z.c = l := ⟨_, rfl⟩
        have hrow15 : BRow 5 w15 y0.heap.size (.slice b15 (l13.length + (Wi.encI z.c).length) d15) (l13 ++ Wi.encI z.c) := brow_app rfl hown15
        have hll15 : l13.length + (Wi.encI z.c).length = l15.length := by rw [← hl15, List.length_append]
        have hlm15 : l15.length ≤ 200060 := by omega
        rw [hl15, hll15] at hrow15
        rw [hll15]
        have HLE15 := Lib.hid hl15
        have HR15 := Lib.hid hrow15
        have HB15 := Lib.hid hbel15
        clear hown15 hbel15 hk15 hn15 hrow15 hl15 hll15 HR14 HX14 HB14 hby14
        have hrow16 : BRow 5 w15 y0.heap.size (.slice b15 l15.length d15) (l0 ++ (x.hs.take (k + 1)).flatMap encHb) := by
          have e : l0 ++ (x.hs.take (k + 1)).flatMap encHb = l15 := by
            rw [Htf.out, ← List.append_assoc, Hac.out, ← HLE15.out, ← HLE13.out, ← HLE11.out]
            simp [encHb]
          rw [e]
          exact HR15.out
        have HR16 := Lib.hid hrow16
        clear hrow16 x2
        go_wp2
        go_roundw
        case rel => exact ⟨k + 1, hlt, by go_num, HR16.out, HB15.out⟩
        case measure => simp [intOf]; omega
      · obtain rfl : k = x.hs.length := by omega
        rw [List.take_length] at Hac
        go_wp2
        go_ret
        rw [He.out]
        refine ⟨_, rfl, ?_, HbY.out.trans (HBl.out.mono HbY.out.size)⟩
        have e : encVb x = acc := by rw [← Hac.out, ← HL0.out, ← HL3.out]; simp [encVb]
        rw [e]
        exact own_base HR.out HbY.out.size
end Go.Proofs.YthmnhpakgjnngaaGreatDoor
