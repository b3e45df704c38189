/- Revive: to; Few -/
import Derived.Test.YthmnhpakgjnngaaGreatDoorXf
import Derived.Deep.CutRange
import Derived.WalkMore
namespace Go.Proofs.YthmnhpakgjnngaaGreatDoor
open Go.RowKit Go.Bs Go.Cl Go.Rw Go.Dt Go.Rv Go.Wi
set_option maxRecDepth 100000 in
set_option maxHeartbeats 8000000 in
theorem to_any (v : Value) (x : Sv) (w : World) (hl1 : x.wt.length ≤ 1000) (hl2 : x.hs.length ≤ 1000) (h : SvV w v x) : Calls Tryz.prog 14 #[v] w fun e w' => ∃ v', e = .returned v' ∧ SvN (List.range w.heap.size) w' v' x ∧ Below w.heap.size w w' := by
  obtain ⟨wv, hv, rfl, i1, s1⟩ := h
  obtain ⟨a, cap, rfl⟩ := Raw.slice i1
  obtain ⟨ha, hc, rfl⟩ := Raw.slice s1
  obtain ⟨C1, hC1⟩ : ∃ C : Array Value, C = #[.int .i64 x.r, .slice a x.wt.length cap, .slice ha x.hs.length hc] := ⟨_, rfl⟩
  have hb : Below w.heap.size w ((w.alloc (.cells C1 27)).alloc (.cells #[.int .i64 0, .slice none 0 0, .slice none 0 0] 41)) := ((Below.refl _ w).alloc (Nat.le_refl _) _).alloc (by simp) _
  obtain ⟨W, hW⟩ : ∃ W, W = (w.alloc (.cells C1 27)).alloc (.cells #[.int .i64 0, .slice none 0 0, .slice none 0 0] 41) := ⟨_, rfl⟩
  have hA : W.heap[w.heap.size]? = some (.cells C1 27 (0, 0)) := by rw [hW]; exact (Below.heap_alloc (w.alloc (.cells C1 27)) _ _ (by simp)).trans (heap_alloc_new w _)
  have hB : W.heap[w.heap.size + 1]? = some (.cells #[.int .i64 0, .slice none 0 0, .slice none 0 0] 41 (0, 0)) := by
    rw [hW]
    have := heap_alloc_new (w.alloc (.cells C1 27)) (.cells #[.int .i64 0, .slice none 0 0, .slice none 0 0] 41)
    simpa using this
  rw [← hW] at hb
  rw [hC1] at hW hA
  obtain ⟨S, hAe⟩ : ∃ A, A = w.heap.size := ⟨_, rfl⟩
  obtain ⟨R, hBe⟩ : ∃ B, B = w.heap.size + 1 := ⟨_, rfl⟩
  rw [← hAe] at hA
  rw [← hBe] at hB
  have hwS : w.heap.size ≤ S := by omega
  have hwR : w.heap.size ≤ R := by omega
  have hSW := (Array.getElem?_eq_some_iff.1 hA).1
  have hRW := (Array.getElem?_eq_some_iff.1 hB).1
  have HW := Lib.hid hW; have HAe := Lib.hid hAe; have HBe := Lib.hid hBe
  have HS := Lib.hid hA; have HRx := Lib.hid hB
  have H1 := Lib.hid (Raw.below i1 hb); have H2 := Lib.hid (Raw.below s1 hb)
  have Hb := Lib.hid hb
  clear hW hC1 hA hB i1 s1 hb hAe hBe
  go_enter Tryz.func14, Tryz.ntmps14
  go_upto_region 1 with (fail)
  rw [← HW.out, ← HBe.out, ← HAe.out]
  clear HW HAe HBe
  go_cut [3] from 5 to 14 (fun s3 wx => ∃ (O : Nat) (a2 : Option Addr) (c2 : Nat), s3 = .pointer (some ⟨O, 0, none⟩) ∧ wx.heap[O]? = some (.cells #[.int .i64 x.r, .slice a2 x.wt.length c2, .slice none 0 0] 41 (0, 0)) ∧ W.heap.size ≤ O ∧ wx.ownsRow W.heap.size 3 1 (.slice a2 x.wt.length c2) x.wt.length (x.wt.map (Value.int .i64)) ∧ Below W.heap.size W wx)
  case first =>
    have hBl : ∀ q ∈ [S], ∃ cc e f, W.heap[q]? = some (.cells cc e f) := fun q hq => by rw [List.mem_singleton.1 hq]; exact ⟨_, _, _, HS.out⟩
    refine Txt.Ty.wp_tree [S] [2, 6] [] [2, 6] [0, 1, 2, 4, 5, 6] (.alt [3] (.alt [7, 8, 9] (.alt [10] (.alt [11] (.done) (.no)) (.no)) (.alt [10] (.alt [7, 8, 9] (.alt [11] (.done) (.no)) (.no)) (.no))) (.alt [10] (.alt [3] (.alt [7, 8, 9] (.alt [11] (.done) (.no)) (.no)) (.no)) (.no))) (by kernel_rfl) (by kernel_rfl) (by kernel_rfl) (by kernel_rfl) hBl ?_
    obtain ⟨y0, hy0⟩ : ∃ y, y = W.drew := ⟨_, rfl⟩
    have HSB0 : Hid (Txt.SameB [S] y0 y0) := Lib.hid (by rw [hy0]; exact same_start hBl)
    clear hBl
    rw [← hy0]
    have hd : Below W.heap.size W y0 := by rw [hy0]; exact (Below.refl _ _).drew
    have HB0 := Lib.hid hd
    have hs0 := (hd.block S hSW).trans HS.out
    have s0 := box_at hs0 (j := 0) rfl
    have s1 := box_at hs0 (j := 1) rfl
    clear hy0 hd hs0
    (try simp only [Txt.pick, List.getElem?_cons_succ, List.getElem?_cons_zero])
    go_wp2
    refine Txt.RunPost.mk ?_
    clear s0 s1
    refine Txt.Ty.wpTr_alt ?_ (Txt.Ty.wpTr_alt ?_ Txt.Ty.wpTr_no)
    · (try simp only [Txt.pick, List.getElem?_cons_succ, List.getElem?_cons_zero])
      go_wp2
      obtain ⟨E, hE⟩ : ∃ E, E = y0.heap.size := ⟨_, rfl⟩
      obtain ⟨y1, hy⟩ : ∃ Y, Y = y0.alloc (.cells #[] 3) := ⟨_, rfl⟩
      rw [← hy, ← hE]
      have hb : Below y0.heap.size y0 y1 := by rw [hy]; exact (Below.refl _ _).alloc (Nat.le_refl _) _
      have HE1 : Hid (y1.ownsRow W.heap.size 3 1 (.slice (some ⟨E, 0, none⟩) 0 0) 0 []) := Lib.hid (by rw [hy, hE]; exact own_base (own_empty y0 y0.heap.size 3 1 (Nat.le_refl _)) HB0.out.size)
      clear hy hE
      have HB1 := Lib.hid (HB0.out.trans (hb.mono HB0.out.size))
      have HSB1 := Lib.hid (same_below' HSB0.out hb)
      clear hb

      refine Txt.SegPost.mk (Txt.Ty.Shown.same HSB1.out) ?_
      (try simp only [Txt.pick, List.getElem?_cons_succ, List.getElem?_cons_zero])
      go_wp2
      refine Txt.RunPost.mk ?_
      refine Txt.Ty.wpTr_alt ?_ (Txt.Ty.wpTr_alt ?_ Txt.Ty.wpTr_no)
      · (try simp only [Txt.pick, List.getElem?_cons_succ, List.getElem?_cons_zero])
        go_wp2_with (at_builtin; refine wpList_appF elN Tryz.underlying22 HE1.out (Raw.below H1.out HB1.out) (Below.refl W.heap.size y1) rfl _ _ rfl rfl rfl ?c3 ?cB ?c5 ?_)
        case c3 => omega
        case cB => exact Nat.le_refl _
        case c5 => exact HB1.out.size
        intro v2 y2 hown2 hbel2 hk2 hn2
        have hrow : y2.ownsRow W.heap.size 3 1 v2 x.wt.length (x.wt.map (Value.int .i64)) := by simpa using hown2
        obtain ⟨a2, c2, rfl⟩ := own_slice hrow
        have HR2 := Lib.hid hrow
        have hb0 := hk2
        clear hown2 hn2 hrow
        have HB2 := Lib.hid (HB1.out.trans hbel2)
        have hSb : S < W.heap.size := hSW
        have HSB2 := Lib.hid (same_keep HSB1.out hk2 (fun q hq hm => by
          rw [List.mem_singleton.1 hq] at hm
          have := (HE1.out.lt _ (by simpa using hm)).1; omega))
        clear hk2 hb0 hbel2 hSb
        go_wp2
        refine Txt.SegPost.mk (Txt.Ty.Shown.same HSB2.out) ?_
        (try simp only [Txt.pick, List.getElem?_cons_succ, List.getElem?_cons_zero])
        go_wp2
        refine Txt.RunPost.mk ?_
        refine Txt.Ty.wpTr_alt ?_ Txt.Ty.wpTr_no
        · (try simp only [Txt.pick, List.getElem?_cons_succ, List.getElem?_cons_zero])
          go_wp2
          obtain ⟨O, hO⟩ : ∃ O, O = y2.heap.size := ⟨_, rfl⟩
          obtain ⟨y3, hy⟩ : ∃ Y, Y = y2.alloc (.cells #[.int .i64 0, .slice none 0 0, .slice none 0 0] 41) := ⟨_, rfl⟩
          rw [← hy, ← hO]
          have hb : Below y2.heap.size y2 y3 := by rw [hy]; exact (Below.refl _ _).alloc (Nat.le_refl _) _
          have HO3 : Hid (y3.heap[O]? = some (.cells #[.int .i64 0, .slice none 0 0, .slice none 0 0] 41 (0, 0))) := Lib.hid (by rw [hy, hO]; exact heap_alloc_new y2 _)
          have hOW : W.heap.size ≤ O := by rw [hO]; exact HB2.out.size
          clear hy hO
          have HB3 := Lib.hid (HB2.out.trans (hb.mono HB2.out.size))
          have HSB3 := Lib.hid (same_below' HSB2.out hb)
          have HR3 := Lib.hid (own_below HR2.out hb (Nat.le_refl _))
          clear hb

          refine Txt.SegPost.mk (Txt.Ty.Shown.same HSB3.out) ?_
          (try simp only [Txt.pick, List.getElem?_cons_succ, List.getElem?_cons_zero])
          go_wp2
          refine Txt.RunPost.mk ?_
          refine Txt.Ty.wpTr_alt ?_ Txt.Ty.wpTr_no
          (try simp only [Txt.pick, List.getElem?_cons_succ, List.getElem?_cons_zero])
          have g0 := box_at HO3.out (j := 0) rfl
          have g1 := box_at HO3.out (j := 1) rfl
          have g2 := box_at HO3.out (j := 2) rfl
          have f0 := box_free HO3.out 0
          have f1 := box_free HO3.out 1
          have f2 := box_free HO3.out 2
          go_wp2
          have hk := keep_set3 y3 O (.int .i64 x.r) (.slice a2 x.wt.length c2) (.slice none 0 0)
          refine Txt.SegPost.mk (Txt.Ty.Shown.same (same_keep HSB3.out hk (fun q hq hm => by simp only [List.mem_cons, List.not_mem_nil, or_false] at hq hm; omega))) ?_
          (try simp only [Txt.pick, List.getElem?_cons_succ, List.getElem?_cons_zero])
          go_wp2
          refine Txt.RunPost.mk ?_
          refine Txt.Ty.wpTr_done (by rfl) ⟨.head _, .head _, trivial⟩ ?_
          clear g0 g1 g2 f0 f1 f2
          go_wp2
          go_meet
          case rel =>
            refine ⟨O, a2, c2, rfl, heap_set3 HO3.out _ _ _, hOW, own_keep HR3.out hk (fun q hq hm => ?_), HB3.out.trans (hk.below HB3.out.size (fun f hf => by rw [List.mem_singleton.1 hf]; exact hOW))⟩
            rw [List.mem_singleton] at hm
            obtain ⟨cur, hc⟩ := RowF.type (.inl HR3.out) (r := q) hq
            rw [hm, HO3.out] at hc; cases hc
      · (try simp only [Txt.pick, List.getElem?_cons_succ, List.getElem?_cons_zero])
        go_wp2
        obtain ⟨O, hO⟩ : ∃ O, O = y1.heap.size := ⟨_, rfl⟩
        obtain ⟨y2, hy⟩ : ∃ Y, Y = y1.alloc (.cells #[.int .i64 0, .slice none 0 0, .slice none 0 0] 41) := ⟨_, rfl⟩
        rw [← hy, ← hO]
        have hb : Below y1.heap.size y1 y2 := by rw [hy]; exact (Below.refl _ _).alloc (Nat.le_refl _) _
        have HO2 : Hid (y2.heap[O]? = some (.cells #[.int .i64 0, .slice none 0 0, .slice none 0 0] 41 (0, 0))) := Lib.hid (by rw [hy, hO]; exact heap_alloc_new y1 _)
        have hOW : W.heap.size ≤ O := by rw [hO]; exact HB1.out.size
        clear hy hO
        have HB2 := Lib.hid (HB1.out.trans (hb.mono HB1.out.size))
        have HSB2 := Lib.hid (same_below' HSB1.out hb)
        have HE2 := Lib.hid (own_below HE1.out hb (Nat.le_refl _))
        clear hb

        refine Txt.SegPost.mk (Txt.Ty.Shown.same HSB2.out) ?_
        (try simp only [Txt.pick, List.getElem?_cons_succ, List.getElem?_cons_zero])
        go_wp2
        refine Txt.RunPost.mk ?_
        refine Txt.Ty.wpTr_alt ?_ Txt.Ty.wpTr_no
        · (try simp only [Txt.pick, List.getElem?_cons_succ, List.getElem?_cons_zero])
          go_wp2_with (at_builtin; refine wpList_appF elN Tryz.underlying22 HE2.out (Raw.below H1.out HB2.out) (Below.refl W.heap.size y2) rfl _ _ rfl rfl rfl ?c3 ?cB ?c5 ?_)
          case c3 => omega
          case cB => exact Nat.le_refl _
          case c5 => exact HB2.out.size
          intro v2 y3 hown2 hbel2 hk2 hn2
          have hrow : y3.ownsRow W.heap.size 3 1 v2 x.wt.length (x.wt.map (Value.int .i64)) := by simpa using hown2
          obtain ⟨a2, c2, rfl⟩ := own_slice hrow
          have HR3 := Lib.hid hrow
          have hb0 := hk2
          clear hown2 hn2 hrow
          have HB3 := Lib.hid (HB2.out.trans hbel2)
          have hSb : S < W.heap.size := hSW
          have HSB3 := Lib.hid (same_keep HSB2.out hk2 (fun q hq hm => by
            rw [List.mem_singleton.1 hq] at hm
            have := (HE2.out.lt _ (by simpa using hm)).1; omega))
          have HO3 := Lib.hid ((hk2.block O (Array.getElem?_eq_some_iff.1 HO2.out).1 (fun hm => by
            obtain ⟨cur, hc⟩ := RowF.type (.inl HE2.out) (r := O) (by simpa using hm)
            rw [HO2.out] at hc; cases hc)).trans HO2.out)
          clear hk2 hb0 hbel2 hSb
          go_wp2
          refine Txt.SegPost.mk (Txt.Ty.Shown.same HSB3.out) ?_
          (try simp only [Txt.pick, List.getElem?_cons_succ, List.getElem?_cons_zero])
          go_wp2
          refine Txt.RunPost.mk ?_
          refine Txt.Ty.wpTr_alt ?_ Txt.Ty.wpTr_no
          (try simp only [Txt.pick, List.getElem?_cons_succ, List.getElem?_cons_zero])
          have g0 := box_at HO3.out (j := 0) rfl
          have g1 := box_at HO3.out (j := 1) rfl
          have g2 := box_at HO3.out (j := 2) rfl
          have f0 := box_free HO3.out 0
          have f1 := box_free HO3.out 1
          have f2 := box_free HO3.out 2
          go_wp2
          have hk := keep_set3 y3 O (.int .i64 x.r) (.slice a2 x.wt.length c2) (.slice none 0 0)
          refine Txt.SegPost.mk (Txt.Ty.Shown.same (same_keep HSB3.out hk (fun q hq hm => by simp only [List.mem_cons, List.not_mem_nil, or_false] at hq hm; omega))) ?_
          (try simp only [Txt.pick, List.getElem?_cons_succ, List.getElem?_cons_zero])
          go_wp2
          refine Txt.RunPost.mk ?_
          refine Txt.Ty.wpTr_done (by rfl) ⟨.head _, .head _, trivial⟩ ?_
          clear g0 g1 g2 f0 f1 f2
          go_wp2
          go_meet
          case rel =>
            refine ⟨O, a2, c2, rfl, heap_set3 HO3.out _ _ _, hOW, own_keep HR3.out hk (fun q hq hm => ?_), HB3.out.trans (hk.below HB3.out.size (fun f hf => by rw [List.mem_singleton.1 hf]; exact hOW))⟩
            rw [List.mem_singleton] at hm
            obtain ⟨cur, hc⟩ := RowF.type (.inl HR3.out) (r := q) hq
            rw [hm, HO3.out] at hc; cases hc
    · (try simp only [Txt.pick, List.getElem?_cons_succ, List.getElem?_cons_zero])
      go_wp2
      obtain ⟨O, hO⟩ : ∃ O, O = y0.heap.size := ⟨_, rfl⟩
      obtain ⟨y1, hy⟩ : ∃ Y, Y = y0.alloc (.cells #[.int .i64 0, .slice none 0 0, .slice none 0 0] 41) := ⟨_, rfl⟩
      rw [← hy, ← hO]
      have hb : Below y0.heap.size y0 y1 := by rw [hy]; exact (Below.refl _ _).alloc (Nat.le_refl _) _
      have HO1 : Hid (y1.heap[O]? = some (.cells #[.int .i64 0, .slice none 0 0, .slice none 0 0] 41 (0, 0))) := Lib.hid (by rw [hy, hO]; exact heap_alloc_new y0 _)
      have hOW : W.heap.size ≤ O := by rw [hO]; exact HB0.out.size
      clear hy hO
      have HB1 := Lib.hid (HB0.out.trans (hb.mono HB0.out.size))
      have HSB1 := Lib.hid (same_below' HSB0.out hb)
      clear hb

      refine Txt.SegPost.mk (Txt.Ty.Shown.same HSB1.out) ?_
      (try simp only [Txt.pick, List.getElem?_cons_succ, List.getElem?_cons_zero])
      go_wp2
      refine Txt.RunPost.mk ?_
      refine Txt.Ty.wpTr_alt ?_ Txt.Ty.wpTr_no
      · (try simp only [Txt.pick, List.getElem?_cons_succ, List.getElem?_cons_zero])
        go_wp2
        obtain ⟨E, hE⟩ : ∃ E, E = y1.heap.size := ⟨_, rfl⟩
        obtain ⟨y2, hy⟩ : ∃ Y, Y = y1.alloc (.cells #[] 3) := ⟨_, rfl⟩
        rw [← hy, ← hE]
        have hb : Below y1.heap.size y1 y2 := by rw [hy]; exact (Below.refl _ _).alloc (Nat.le_refl _) _
        have HE2 : Hid (y2.ownsRow W.heap.size 3 1 (.slice (some ⟨E, 0, none⟩) 0 0) 0 []) := Lib.hid (by rw [hy, hE]; exact own_base (own_empty y1 y1.heap.size 3 1 (Nat.le_refl _)) HB1.out.size)
        clear hy hE
        have HB2 := Lib.hid (HB1.out.trans (hb.mono HB1.out.size))
        have HSB2 := Lib.hid (same_below' HSB1.out hb)
        have HO2 := Lib.hid ((hb.block O (Array.getElem?_eq_some_iff.1 HO1.out).1).trans HO1.out)
        clear hb

        refine Txt.SegPost.mk (Txt.Ty.Shown.same HSB2.out) ?_
        (try simp only [Txt.pick, List.getElem?_cons_succ, List.getElem?_cons_zero])
        go_wp2
        refine Txt.RunPost.mk ?_
        refine Txt.Ty.wpTr_alt ?_ Txt.Ty.wpTr_no
        · (try simp only [Txt.pick, List.getElem?_cons_succ, List.getElem?_cons_zero])
          go_wp2_with (at_builtin; refine wpList_appF elN Tryz.underlying22 HE2.out (Raw.below H1.out HB2.out) (Below.refl W.heap.size y2) rfl _ _ rfl rfl rfl ?c3 ?cB ?c5 ?_)
          case c3 => omega
          case cB => exact Nat.le_refl _
          case c5 => exact HB2.out.size
          intro v2 y3 hown2 hbel2 hk2 hn2
          have hrow : y3.ownsRow W.heap.size 3 1 v2 x.wt.length (x.wt.map (Value.int .i64)) := by simpa using hown2
          obtain ⟨a2, c2, rfl⟩ := own_slice hrow
          have HR3 := Lib.hid hrow
          have hb0 := hk2
          clear hown2 hn2 hrow
          have HB3 := Lib.hid (HB2.out.trans hbel2)
          have hSb : S < W.heap.size := hSW
          have HSB3 := Lib.hid (same_keep HSB2.out hk2 (fun q hq hm => by
            rw [List.mem_singleton.1 hq] at hm
            have := (HE2.out.lt _ (by simpa using hm)).1; omega))
          have HO3 := Lib.hid ((hk2.block O (Array.getElem?_eq_some_iff.1 HO2.out).1 (fun hm => by
            obtain ⟨cur, hc⟩ := RowF.type (.inl HE2.out) (r := O) (by simpa using hm)
            rw [HO2.out] at hc; cases hc)).trans HO2.out)
          clear hk2 hb0 hbel2 hSb
          go_wp2
          refine Txt.SegPost.mk (Txt.Ty.Shown.same HSB3.out) ?_
          (try simp only [Txt.pick, List.getElem?_cons_succ, List.getElem?_cons_zero])
          go_wp2
          refine Txt.RunPost.mk ?_
          refine Txt.Ty.wpTr_alt ?_ Txt.Ty.wpTr_no
          (try simp only [Txt.pick, List.getElem?_cons_succ, List.getElem?_cons_zero])
          have g0 := box_at HO3.out (j := 0) rfl
          have g1 := box_at HO3.out (j := 1) rfl
          have g2 := box_at HO3.out (j := 2) rfl
          have f0 := box_free HO3.out 0
          have f1 := box_free HO3.out 1
          have f2 := box_free HO3.out 2
          go_wp2
          have hk := keep_set3 y3 O (.int .i64 x.r) (.slice a2 x.wt.length c2) (.slice none 0 0)
          refine Txt.SegPost.mk (Txt.Ty.Shown.same (same_keep HSB3.out hk (fun q hq hm => by simp only [List.mem_cons, List.not_mem_nil, or_false] at hq hm; omega))) ?_
          (try simp only [Txt.pick, List.getElem?_cons_succ, List.getElem?_cons_zero])
          go_wp2
          refine Txt.RunPost.mk ?_
          refine Txt.Ty.wpTr_done (by rfl) ⟨.head _, .head _, trivial⟩ ?_
          clear g0 g1 g2 f0 f1 f2
          go_wp2
          go_meet
          case rel =>
            refine ⟨O, a2, c2, rfl, heap_set3 HO3.out _ _ _, hOW, own_keep HR3.out hk (fun q hq hm => ?_), HB3.out.trans (hk.below HB3.out.size (fun f hf => by rw [List.mem_singleton.1 hf]; exact hOW))⟩
            rw [List.mem_singleton] at hm
            obtain ⟨cur, hc⟩ := RowF.type (.inl HR3.out) (r := q) hq
            rw [hm, HO3.out] at hc; cases hc
  case rest =>
    obtain ⟨O, a2, c2, rfl, hO, hOW, hrow, hbW⟩ := hcut
    rename World => wc
    have HO := Lib.hid hO; have HR := Lib.hid hrow; have HB := Lib.hid hbW
    clear hO hrow hbW
    go_wp2
    go_loopw [4] (fun i wr => ∃ (k : Nat) (ov : Value), k ≤ x.hs.length ∧ i = .int .i64 k ∧ wr.heap[O]? = some (.cells #[.int .i64 x.r, .slice a2 x.wt.length c2, ov] 41 (0, 0)) ∧ wr.ownsRow W.heap.size 3 1 (.slice a2 x.wt.length c2) x.wt.length (x.wt.map (Value.int .i64)) ∧ wr.ownsRow W.heap.size 68 3 ov k ((x.hs.take k).flatMap encH) ∧ Below W.heap.size W wr) (fun i _ => x.hs.length - (intOf i).toNat)
    case atStart => exact ⟨0, _, Nat.zero_le _, rfl, HO.out, HR.out, World.ownsRow_nil _ _ _ _, HB.out⟩
    case round =>
      clear HO HR HB
      obtain ⟨k, ov, hk, rfl, hO, hrow, hhs, hbel⟩ := hrel
      obtain ⟨oa, oc, rfl⟩ := own_slice hhs
      have HO := Lib.hid hO; have HR := Lib.hid hrow; have HH := Lib.hid hhs; have HB := Lib.hid hbel
      have hs0 := (hbel.block S hSW).trans HS.out
      clear hO hrow hhs
      by_cases hlt : k < x.hs.length
      · obtain ⟨q1, o1, rfl, hq1, _⟩ := (SlH.below H2.out hbel).elem hlt
        have s2 := box_at hs0 (j := 2) rfl
        clear hbel hs0
        go_upto_region 5 with (fail)
        clear s2
        have hBl : ∀ q ∈ [O], ∃ cc e f, wr.heap[q]? = some (.cells cc e f) := fun q hq => by rw [List.mem_singleton.1 hq]; exact ⟨_, _, _, HO.out⟩
        refine Txt.Ty.wp_tree [O] [1] [10] [1, 3, 6] [0, 1, 2, 3, 4, 5, 6] (.alt [7] (.alt [8, 9] (.alt [10] (.done) (.no)) (.no)) (.no)) (by kernel_rfl) (by kernel_rfl) (by kernel_rfl) (by kernel_rfl) hBl ?_
        obtain ⟨y0, hy0⟩ : ∃ y, y = wr.drew := ⟨_, rfl⟩
        have HSB0 : Hid (Txt.SameB [O] y0 y0) := Lib.hid (by rw [hy0]; exact same_start hBl)
        clear hBl
        rw [← hy0]
        have hd : Below wr.heap.size wr y0 := by rw [hy0]; exact (Below.refl _ _).drew
        have HB0 := Lib.hid (HB.out.trans (hd.mono HB.out.size))
        have HO0 := Lib.hid ((hd.block O (Array.getElem?_eq_some_iff.1 HO.out).1).trans HO.out)
        have HR0 := Lib.hid (own_below HR.out hd (Nat.le_refl _))
        have HH0 := Lib.hid (own_below HH.out hd (Nat.le_refl _))
        have s2 := box_at ((HB0.out.block S hSW).trans HS.out) (j := 2) rfl
        have e2 := box_at HO0.out (j := 2) rfl
        obtain ⟨_, _, hq, _, d0, d1, d2⟩ := (SlH.below H2.out HB0.out).elem hlt
        cases hq
        have htk := take_hsV hlt
        obtain ⟨z, hz⟩ : ∃ z, hsAt x.hs k = z := ⟨_, rfl⟩
        rw [hz] at d0 d1 d2 htk
        have HTK := Lib.hid htk
        clear hy0 hd HO HR HH HB hz htk
        (try simp only [Txt.pick, List.getElem?_cons_succ, List.getElem?_cons_zero])
        go_wp2
        refine Txt.RunPost.mk ?_
        clear s2 e2 d0 d1 d2
        refine Txt.Ty.wpTr_alt ?_ Txt.Ty.wpTr_no
        (try simp only [Txt.pick, List.getElem?_cons_succ, List.getElem?_cons_zero])
        go_wp2
        obtain ⟨Y, hY⟩ : ∃ Y, Y = y0.heap.size := ⟨_, rfl⟩
        obtain ⟨y1, hy⟩ : ∃ Z, Z = y0.alloc (.cells #[.int .i64 z.t, .int .i64 z.n, .int .i64 z.c] 68) := ⟨_, rfl⟩
        rw [← hy, ← hY]
        have hb : Below y0.heap.size y0 y1 := by rw [hy]; exact (Below.refl _ _).alloc (Nat.le_refl _) _
        have hYb : y1.heap[Y]? = some (.cells #[.int .i64 z.t, .int .i64 z.n, .int .i64 z.c] 68 (0, 0)) := by rw [hy, hY]; exact heap_alloc_new y0 _
        have HXr := Lib.hid (boxHs Y z hYb)
        have HB1 := Lib.hid (HB0.out.trans (hb.mono HB0.out.size))
        have HO1 := Lib.hid ((hb.block O (Array.getElem?_eq_some_iff.1 HO0.out).1).trans HO0.out)
        have HR1 := Lib.hid (own_below HR0.out hb (Nat.le_refl _))
        have HH1 := Lib.hid (own_below HH0.out hb (Nat.le_refl _))
        have HSB1 := Lib.hid (same_below' HSB0.out hb)
        clear hy hY hb hYb HB0 HO0 HR0 HH0 HSB0
        refine Txt.SegPost.mk (Txt.Ty.Shown.same HSB1.out) ?_
        (try simp only [Txt.pick, List.getElem?_cons_succ, List.getElem?_cons_zero])
        go_wp2
        refine Txt.RunPost.mk ?_
        refine Txt.Ty.wpTr_alt ?_ Txt.Ty.wpTr_no
        (try simp only [Txt.pick, List.getElem?_cons_succ, List.getElem?_cons_zero])
        go_wp2_with (at_builtin; refine wpList_appF elH Tryz.underlying39 HH1.out HXr.out (Below.refl W.heap.size y1) rfl _ _ rfl rfl rfl ?c3 ?cB ?c5 ?_)
        case c3 => omega
        case cB => exact Nat.le_refl _
        case c5 => exact HB1.out.size
        intro v2 y2 hown2 hbel2 hk2 hn2
        obtain ⟨a3, c3, rfl⟩ := own_slice hown2
        have hnO : O ∉ (Value.slice oa k oc).ownBlock.toList := fun hm => by
          obtain ⟨cur, hc⟩ := RowF.type (.inl HH1.out) (r := O) (by simpa using hm)
          rw [HO1.out] at hc; cases hc
        have HO2 := Lib.hid ((hk2.block O (Array.getElem?_eq_some_iff.1 HO1.out).1 hnO).trans HO1.out)
        have HR2 := Lib.hid (own_keep HR1.out hk2 (fun q hq hm => by
          obtain ⟨cur, hc⟩ := RowF.type (.inl HH1.out) (r := q) (by simpa using hm)
          obtain ⟨cur', hc'⟩ := RowF.type (.inl HR1.out) (r := q) hq
          rw [hc] at hc'; cases hc'))
        have HB2 := Lib.hid (HB1.out.trans hbel2)
        have HSB2 := Lib.hid (same_keep HSB1.out hk2 (fun q hq => by rw [List.mem_singleton.1 hq]; exact hnO))
        have HH2 : Hid (y2.ownsRow W.heap.size 68 3 (.slice a3 (k + 1) c3) (k + 1) ((x.hs.take (k + 1)).flatMap encH)) := Lib.hid (by rw [HTK.out]; exact hown2)
        clear hown2 hbel2 hk2 hn2 hnO HB1 HO1 HR1 HH1 HSB1
        go_wp2
        refine Txt.SegPost.mk (Txt.Ty.Shown.same HSB2.out) ?_
        (try simp only [Txt.pick, List.getElem?_cons_succ, List.getElem?_cons_zero])
        go_wp2
        refine Txt.RunPost.mk ?_
        refine Txt.Ty.wpTr_alt ?_ Txt.Ty.wpTr_no
        (try simp only [Txt.pick, List.getElem?_cons_succ, List.getElem?_cons_zero])
        have e2 := box_at HO2.out (j := 2) rfl
        have f2 := box_free HO2.out 2
        go_wp2
        have hk := (Keep.refl [O] y2).setCell (p := ⟨O, 2, none⟩) (by simp) (.slice a3 (k + 1) c3)
        refine Txt.SegPost.mk (Txt.Ty.Shown.last rfl) ?_
        (try simp only [Txt.pick, List.getElem?_cons_succ, List.getElem?_cons_zero])
        go_wp2
        refine Txt.RunPost.mk ?_
        refine Txt.Ty.wpTr_done (by rfl) ⟨.head _, trivial⟩ ?_
        have HK := Lib.hid hk
        clear hk e2 f2
        go_wp2
        go_roundw
        case rel =>
          refine ⟨k + 1, _, hlt, by go_num, heap_set2' HO2.out _, own_keep HR2.out HK.out (fun q hq hm => ?_), own_keep HH2.out HK.out (fun q hq hm => ?_), HB2.out.trans (HK.out.below HB2.out.size (fun f hf => by rw [List.mem_singleton.1 hf]; exact hOW))⟩
          · obtain ⟨cur, hc⟩ := RowF.type (.inl HR2.out) (r := q) hq
            rw [List.mem_singleton] at hm
            rw [hm, HO2.out] at hc; cases hc
          · obtain ⟨cur, hc⟩ := RowF.type (.inl HH2.out) (r := q) hq
            rw [List.mem_singleton] at hm
            rw [hm, HO2.out] at hc; cases hc
        case measure => simp [intOf]; omega
      · obtain rfl : k = x.hs.length := by omega
        have hrx := (hbel.block R hRW).trans HRx.out
        have r0 := box_at hrx (j := 0) rfl
        have r1 := box_at hrx (j := 1) rfl
        have r2 := box_at hrx (j := 2) rfl
        have k0 := box_free hrx 0
        have k1 := box_free hrx 1
        have k2 := box_free hrx 2
        have e0 := box_at HO.out (j := 0) rfl
        have e1 := box_at HO.out (j := 1) rfl
        have e2 := box_at HO.out (j := 2) rfl
        have s2 := box_at hs0 (j := 2) rfl
        have HRX := Lib.hid hrx
        clear hbel hs0 hrx
        go_wp2
        refine bodyPost_ret (results_c rfl _ _ _ _ _ _ _ rfl (heap_set3 HRX.out _ _ _) Tryz.underlying41 rfl (by kernel_rfl)) rfl ?_
        have hk := keep_set3 wr R (.int .i64 x.r) (.slice a2 x.wt.length c2) (.slice oa x.hs.length oc)
        have hbw := Hb.out.trans (HB.out.mono Hb.out.size)
        refine ⟨_, rfl, ⟨_, _, rfl, ?_, ?_⟩, hbw.trans (hk.below hbw.size (fun f hf => by rw [List.mem_singleton.1 hf]; exact hwR))⟩
        · have ho := own_keep HR.out hk (fun q hq hm => by have := (HR.out.lt q hq).1; rw [List.mem_singleton] at hm; omega)
          exact Raw.of_own (own_base ho Hb.out.size) (ivs_one _) (fun f hf => List.mem_range.1 hf)
        · have ho := own_keep HH.out hk (fun q hq hm => by have := (HH.out.lt q hq).1; rw [List.mem_singleton] at hm; omega)
          rw [List.take_length] at ho
          exact Raw.of_own (own_base ho Hb.out.size) (encH_one _) (fun f hf => List.mem_range.1 hf)
set_option maxRecDepth 100000 in
set_option maxHeartbeats 1000000 in
theorem few_any (r : Int) (wv hv : Value) (n m : Nat) (w : World) (h1 : ∃ a c, wv = .slice a n c) (h2 : ∃ a c, hv = .slice a m c) : Calls Tryz.prog 5 #[.agg #[.int .i64 r, wv, hv]] w fun e w' => e = .returned (.bool (decide (n ≤ 40 ∧ m ≤ 40))) ∧ Below w.heap.size w w' := by
  obtain ⟨a, c, rfl⟩ := h1
  obtain ⟨a2, c2, rfl⟩ := h2
  obtain ⟨C1, hC1⟩ : ∃ C : Array Value, C = #[.int .i64 r, .slice a n c, .slice a2 m c2] := ⟨_, rfl⟩
  obtain ⟨W, hW⟩ : ∃ W, W = w.alloc (.cells C1 27) := ⟨_, rfl⟩
  obtain ⟨S, hS⟩ : ∃ S, S = w.heap.size := ⟨_, rfl⟩
  have hb : Below w.heap.size w W := by rw [hW]; exact (Below.refl _ w).alloc (Nat.le_refl _) _
  have hx : W.heap[S]? = some (.cells C1 27 (0, 0)) := by rw [hW, hS]; exact heap_alloc_new w _
  rw [hC1] at hW hx
  have s1 := box_at hx (j := 1) rfl
  have s2 := box_at hx (j := 2) rfl
  have HW := Lib.hid hW; have HS := Lib.hid hS
  clear hW hS hx hC1
  by_cases h1 : n ≤ 40
  · by_cases h2 : m ≤ 40
    · have e1 : decide ((n : Int) ≤ 40) = true := by simp; omega
      have e2 : decide ((m : Int) ≤ 40) = true := by simp; omega
      have e3 : decide (n ≤ 40 ∧ m ≤ 40) = true := by simp [h1, h2]
      rw [e3]
      clear e3
      go_enter Tryz.func5, Tryz.ntmps5
      go_upto_region 1 with (fail)
      rw [← HW.out, ← HS.out]
      go_wp2
      go_ret
      exact ⟨rfl, hb⟩
    · have e3 : decide (n ≤ 40 ∧ m ≤ 40) = false := by simp [h2]
      rw [e3]
      clear e3
      go_enter Tryz.func5, Tryz.ntmps5
      go_upto_region 1 with (fail)
      rw [← HW.out, ← HS.out]
      go_wp2
      go_ret
      exact ⟨(show Ending.returned (.bool (decide ((m : Int) ≤ 40))) = _ by rw [decide_eq_false (by omega)]), hb⟩
  · have e3 : decide (n ≤ 40 ∧ m ≤ 40) = false := by simp [h1]
    rw [e3]
    clear e3
    go_enter Tryz.func5, Tryz.ntmps5
    go_upto_region 1 with (fail)
    rw [← HW.out, ← HS.out]
    go_wp2
    go_ret
    exact ⟨rfl, hb⟩
end Go.Proofs.YthmnhpakgjnngaaGreatDoor
