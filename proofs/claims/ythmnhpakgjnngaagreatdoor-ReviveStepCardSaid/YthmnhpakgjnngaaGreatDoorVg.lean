/- Revive: pong -/
import Derived.Test.YthmnhpakgjnngaaGreatDoorVf
import Derived.Deep.CutRange
namespace Go.Proofs.YthmnhpakgjnngaaGreatDoor
open Go.RowKit Go.Bs Go.Cl Go.Rw Go.Dt Go.Rv
/-- what detect.Pong gives -/
def PongP (x : Sv) (t y rr er : Int) (vv : Value) (base : Nat) (w : World) : Prop :=
  (er = 0 ∧ (t ∈ x.wt ∧ y = x.r) ∧ rr = x.r ∧ w.ownsRow base 3 1 vv (less x.wt t).length ((less x.wt t).map (Value.int .i64))) ∨ (er = 8 ∧ ¬ (t ∈ x.wt ∧ y = x.r) ∧ rr = 0 ∧ vv = .slice none 0 0)
theorem PongP.lower {x : Sv} {t y rr er : Int} {vv : Value} {b b' : Nat} {w : World} (h : PongP x t y rr er vv b w) (hb : b' ≤ b) : PongP x t y rr er vv b' w := h.imp (fun ⟨h1, h2, h3, h4⟩ => ⟨h1, h2, h3, own_base h4 hb⟩) id
theorem PongP.below {x : Sv} {t y rr er : Int} {vv : Value} {b : Nat} {w w' : World} (h : PongP x t y rr er vv b w) (hb : Below w.heap.size w w') : PongP x t y rr er vv b w' := h.imp (fun ⟨h1, h2, h3, h4⟩ => ⟨h1, h2, h3, own_below h4 hb (Nat.le_refl _)⟩) id
theorem PongP.keep {x : Sv} {t y rr er : Int} {vv : Value} {b B : Nat} {w w' : World} {cs : Array Value} {fr : Nat × Nat} (h : PongP x t y rr er vv b w) (hk : Keep [B] w w') (hB : w.heap[B]? = some (.cells cs 38 fr)) : PongP x t y rr er vv b w' := h.imp (fun ⟨h1, h2, h3, h4⟩ => ⟨h1, h2, h3, own_keep h4 hk (fun r hr hm => by
  rw [List.mem_singleton] at hm
  obtain ⟨cur, hc⟩ := own_type h4 hr
  rw [hm, hB] at hc
  cases hc)⟩) id
theorem pong_any (x : Sv) (v : Value) (t y : Int) (w : World) (hok : VOk x) (h : Ints [] w v x.wt) :
    Calls Tryz.prog 69 #[.agg #[.int .i64 x.r, v], .int .i64 t, .int .i64 y] w fun e w' => ∃ rr er va vn vc, e = .returned (.tuple #[.agg #[.int .i64 rr, .slice va vn vc], .int .i64 er]) ∧ Below w.heap.size w w' ∧ PongP x t y rr er (.slice va vn vc) w.heap.size w' := by
  have hl := hok.len
  by_cases ht : t ∈ x.wt
  · by_cases hy : y = x.r
    · subst hy
      refine (pong_ok x.r t x.wt v w (by omega) h hok.b ht).mono ?_
      rintro e w' ⟨vv, rfl, ho, hb⟩
      obtain ⟨va, vc, rfl⟩ := own_slice ho
      exact ⟨_, _, _, _, _, rfl, hb, .inl ⟨rfl, ⟨ht, rfl⟩, rfl, ho⟩⟩
    · refine (pong_ne x.r t y x.wt v w (by omega) h hok.b ht hy).mono ?_
      rintro e w' ⟨rfl, hb⟩
      exact ⟨_, _, _, _, _, rfl, hb, .inr ⟨rfl, fun hh => hy hh.2, rfl, rfl⟩⟩
  · refine (pong_no x.r t y x.wt v w (by omega) h hok.b ht).mono ?_
    rintro e w' ⟨rfl, hb⟩
    exact ⟨_, _, _, _, _, rfl, hb, .inr ⟨rfl, fun hh => ht hh.1, rfl, rfl⟩⟩
set_option maxRecDepth 100000 in
set_option maxHeartbeats 4000000 in
theorem hpong_any (base s : Nat) (wv hv : Value) (x : Sv) (m : Ms) (da : Option Addr) (dn dc : Nat) (w : World) (hok : VOk x) (h : Stt w base s wv hv x) :
    Calls Tryz.prog 43 #[.pointer (some ⟨s, 0, none⟩), .agg (msgC m (.slice da dn dc))] w (RetM (some (pongV x m.src m.a0, [])) base s w) := by
  obtain ⟨ms, md, mk, mq, m0, m1, m2, m3⟩ := m
  obtain ⟨W, hW⟩ : ∃ W, W = w.alloc (.cells (msgC ⟨ms, md, mk, mq, m0, m1, m2, m3⟩ (.slice da dn dc)) 31) := ⟨_, rfl⟩
  have hb : Below w.heap.size w W := by rw [hW]; exact (Below.refl w.heap.size w).alloc (Nat.le_refl _) _
  have hx : W.heap[w.heap.size]? = some (.cells #[.int .i64 ms, .int .i64 md, .int .i64 mk, .int .i64 mq, .int .i64 m0, .int .i64 m1, .int .i64 m2, .int .i64 m3, .slice da dn dc] 31 (0, 0)) := by rw [hW]; exact heap_alloc_new w _
  have hlo := h.st.lo
  have hsl := h.st.lt
  have hbw : base ≤ w.heap.size := by omega
  have hws := hb.size
  have hwl := (Array.getElem?_eq_some_iff.1 hx).1
  have hd := (Below.refl W.heap.size W).drew
  obtain ⟨a, cap, rfl⟩ := own_slice h.wt
  have HS := Lib.hid (h.st.below hb)
  have HWT := Lib.hid (own_below h.wt hb (Nat.le_refl _))
  have HBL := Lib.hid hb
  have HX := Lib.hid hx
  have HW := Lib.hid hW
  have HOK := Lib.hid hok
  have HST := Lib.hid h.st
  have HWS := Lib.hid h.wt
  clear hb hx hW h hok hd
  unfold msgC at HW
  unfold msgC
  dsimp only at HW ⊢
  go_enter Tryz.func43, Tryz.ntmps43
  go_upto_region 1 with (fail)
  rw [← HW.out]
  go_cut [6, 7, 8] from 9 to 21 (fun s6 s7 s8 wx => ∃ (B : Nat) (rr er : Int) (va : Option Addr) (vn vc : Nat), s6 = .pointer (some ⟨B, 0, none⟩) ∧ s7 = .int .i64 er ∧ wx.heap[B]? = some (.cells #[.int .i64 rr, .slice va vn vc] 38 (0, 0)) ∧ B ≠ s ∧ w.heap.size ≤ B ∧ Below w.heap.size w wx ∧ PongP x ms m0 rr er (.slice va vn vc) base wx)
  case first =>
    have hBl : ∀ q ∈ [s, w.heap.size], ∃ cc e f, W.heap[q]? = some (.cells cc e f) := fun q hq => by
      simp only [List.mem_cons, List.not_mem_nil, or_false] at hq
      rcases hq with rfl | rfl
      · exact ⟨_, _, _, HS.out.box⟩
      · exact ⟨_, _, _, HX.out⟩
    refine Txt.Ty.wp_tree [s, w.heap.size] [3, 5, 8] [] [3, 5, 8] [0, 1, 2, 3, 4, 5, 6, 7, 8] (.alt [9, 10, 11, 12] (.alt [13] (.alt [14, 15] (.done) (.no)) (.no)) (.alt [13] (.alt [9, 10, 11, 12] (.alt [14, 15] (.done) (.no)) (.no)) (.no))) (by kernel_rfl) (by kernel_rfl) (by kernel_rfl) (by kernel_rfl) hBl ?_
    obtain ⟨y0, hy0⟩ : ∃ y, y = W.drew := ⟨_, rfl⟩
    have hd : Below W.heap.size W y0 := by rw [hy0]; exact (Below.refl _ _).drew
    have HSB0 : Hid (Txt.SameB [s, w.heap.size] y0 y0) := Lib.hid (by rw [hy0]; exact same_start hBl)
    clear hBl
    rw [← hy0]
    have HX0 := Lib.hid ((hd.block _ (Array.getElem?_eq_some_iff.1 HX.out).1).trans HX.out)
    have HS0 := Lib.hid (HS.out.below hd)
    have HWT0 := Lib.hid (own_below HWT.out hd (Nat.le_refl _))
    have HBL0 := Lib.hid (HBL.out.trans (hd.mono HBL.out.size))
    have hz0 := HBL0.out.size
    have hlt0 : w.heap.size < y0.heap.size := Nat.lt_of_lt_of_le hwl hd.size
    clear hy0 hd HX HS HWT HW
    have c0 := box_at HX0.out (j := 0) rfl
    have c4 := box_at HX0.out (j := 4) rfl
    have s0 := box_at HS0.out.box (j := 0) rfl
    have s1 := box_at HS0.out.box (j := 1) rfl
    (try simp only [Txt.pick, List.getElem?_cons_succ, List.getElem?_cons_zero])
    go_wp2
    refine Txt.RunPost.mk ?_
    refine Txt.Ty.wpTr_alt ?_ (Txt.Ty.wpTr_alt ?_ Txt.Ty.wpTr_no)
    · (try simp only [Txt.pick, List.getElem?_cons_succ, List.getElem?_cons_zero])
      go_wp2_with fail
      refine (pong_any x _ ms m0 y0 HOK.out (Ints.of_own HWT0.out)).mono ?_
      rintro e y1 ⟨rr, er, va, vn, vc, rfl, hb, hp⟩
      have HBL1 := Lib.hid (HBL0.out.trans (hb.mono HBL0.out.size))
      have hpp : PongP x ms m0 rr er (.slice va vn vc) base y1 := hp.lower (Nat.le_trans hbw HBL0.out.size)
      have HP1 := Lib.hid hpp
      have hlt1 : w.heap.size < y1.heap.size := Nat.lt_of_lt_of_le hlt0 hb.size
      have HSB1 := Lib.hid (same_below' HSB0.out hb)
      clear hb hp hpp
      go_wp2
      refine Txt.SegPost.mk (Txt.Ty.Shown.same HSB1.out) ?_
      (try simp only [Txt.pick, List.getElem?_cons_succ, List.getElem?_cons_zero])
      go_wp2
      refine Txt.RunPost.mk ?_
      refine Txt.Ty.wpTr_alt ?_ Txt.Ty.wpTr_no
      (try simp only [Txt.pick, List.getElem?_cons_succ, List.getElem?_cons_zero])
      go_wp2
      obtain ⟨y2, hy2⟩ : ∃ X, X = y1.alloc (.cells #[.int .i64 0, .slice none 0 0] 38) := ⟨_, rfl⟩
      rw [← hy2]
      obtain ⟨B, hBe⟩ : ∃ B, B = y1.heap.size := ⟨_, rfl⟩
      rw [← hBe]
      have hb2 : Below y1.heap.size y1 y2 := by rw [hy2]; exact (Below.refl _ _).alloc (Nat.le_refl _) _
      have hbx : y2.heap[B]? = some (.cells #[.int .i64 0, .slice none 0 0] 38 (0, 0)) := by rw [hy2, hBe]; exact heap_alloc_new y1 _
      have HBX := Lib.hid hbx
      have hB1 : w.heap.size ≤ B := by rw [hBe]; exact HBL1.out.size
      have hB2 : w.heap.size < B := by rw [hBe]; exact hlt1
      have HBL2 := Lib.hid (HBL1.out.trans (hb2.mono HBL1.out.size))
      have HP2 := Lib.hid (HP1.out.below hb2)
      have HSB2 := Lib.hid (same_below' HSB1.out hb2)
      clear hy2 hbx hb2 hBe
      refine Txt.SegPost.mk (Txt.Ty.Shown.same HSB2.out) ?_
      (try simp only [Txt.pick, List.getElem?_cons_succ, List.getElem?_cons_zero])
      go_wp2
      refine Txt.RunPost.mk ?_
      refine Txt.Ty.wpTr_alt ?_ Txt.Ty.wpTr_no
      (try simp only [Txt.pick, List.getElem?_cons_succ, List.getElem?_cons_zero])
      have g0 := box_at HBX.out (j := 0) rfl
      have g1 := box_at HBX.out (j := 1) rfl
      have f0 := box_free HBX.out 0
      have f1 := box_free HBX.out 1
      go_wp2
      refine Txt.SegPost.mk (Txt.Ty.Shown.same (same_keep HSB2.out (keep_set2 y2 B (.int .i64 rr) (.slice va vn vc)) (fun q hq hm => by simp only [List.mem_cons, List.not_mem_nil, or_false] at hq hm; omega))) ?_
      (try simp only [Txt.pick, List.getElem?_cons_succ, List.getElem?_cons_zero])
      go_wp2
      refine Txt.RunPost.mk ?_
      refine Txt.Ty.wpTr_done (by rfl) ⟨.head _, .tail _ (.head _), .tail _ (.head _), trivial⟩ ?_
      go_wp2
      go_meet
      case rel =>
        have hk := keep_set2 y2 B (.int .i64 rr) (.slice va vn vc)
        exact ⟨B, rr, er, va, vn, vc, rfl, rfl, heap_set2 HBX.out _ _, by omega, hB1, HBL2.out.trans (hk.below HBL2.out.size (fun f hf => by rw [List.mem_singleton.1 hf]; exact hB1)), HP2.out.keep hk HBX.out⟩
    · (try simp only [Txt.pick, List.getElem?_cons_succ, List.getElem?_cons_zero])
      go_wp2
      obtain ⟨y1, hy1⟩ : ∃ X, X = y0.alloc (.cells #[.int .i64 0, .slice none 0 0] 38) := ⟨_, rfl⟩
      rw [← hy1]
      obtain ⟨B, hBe⟩ : ∃ B, B = y0.heap.size := ⟨_, rfl⟩
      rw [← hBe]
      have hb1 : Below y0.heap.size y0 y1 := by rw [hy1]; exact (Below.refl _ _).alloc (Nat.le_refl _) _
      have hbx : y1.heap[B]? = some (.cells #[.int .i64 0, .slice none 0 0] 38 (0, 0)) := by rw [hy1, hBe]; exact heap_alloc_new y0 _
      have hB1 : w.heap.size ≤ B := by rw [hBe]; exact HBL0.out.size
      have hB2 : w.heap.size < B := by rw [hBe]; exact hlt0
      have HBL1 := Lib.hid (HBL0.out.trans (hb1.mono HBL0.out.size))
      have HWT1 := Lib.hid (own_below HWT0.out hb1 (Nat.le_refl _))
      have HBX1 := Lib.hid hbx
      have HSB1 := Lib.hid (same_below' HSB0.out hb1)
      clear hy1 hbx hb1 hBe
      refine Txt.SegPost.mk (Txt.Ty.Shown.same HSB1.out) ?_
      (try simp only [Txt.pick, List.getElem?_cons_succ, List.getElem?_cons_zero])
      go_wp2
      refine Txt.RunPost.mk ?_
      refine Txt.Ty.wpTr_alt ?_ Txt.Ty.wpTr_no
      (try simp only [Txt.pick, List.getElem?_cons_succ, List.getElem?_cons_zero])
      go_wp2_with fail
      refine (pong_any x _ ms m0 y1 HOK.out (Ints.of_own HWT1.out)).mono ?_
      rintro e y2 ⟨rr, er, va, vn, vc, rfl, hb, hp⟩
      have HBL2 := Lib.hid (HBL1.out.trans (hb.mono HBL1.out.size))
      have hpp : PongP x ms m0 rr er (.slice va vn vc) base y2 := hp.lower (Nat.le_trans hbw HBL1.out.size)
      have HP2 := Lib.hid hpp
      have HBX := Lib.hid ((hb.block B (Array.getElem?_eq_some_iff.1 HBX1.out).1).trans HBX1.out)
      have HSB2 := Lib.hid (same_below' HSB1.out hb)
      clear hb hp hpp
      go_wp2
      refine Txt.SegPost.mk (Txt.Ty.Shown.same HSB2.out) ?_
      (try simp only [Txt.pick, List.getElem?_cons_succ, List.getElem?_cons_zero])
      go_wp2
      refine Txt.RunPost.mk ?_
      refine Txt.Ty.wpTr_alt ?_ Txt.Ty.wpTr_no
      (try simp only [Txt.pick, List.getElem?_cons_succ, List.getElem?_cons_zero])
      have g0 := box_at HBX.out (j := 0) rfl
      have g1 := box_at HBX.out (j := 1) rfl
      have f0 := box_free HBX.out 0
      have f1 := box_free HBX.out 1
      go_wp2
      refine Txt.SegPost.mk (Txt.Ty.Shown.same (same_keep HSB2.out (keep_set2 y2 B (.int .i64 rr) (.slice va vn vc)) (fun q hq hm => by simp only [List.mem_cons, List.not_mem_nil, or_false] at hq hm; omega))) ?_
      (try simp only [Txt.pick, List.getElem?_cons_succ, List.getElem?_cons_zero])
      go_wp2
      refine Txt.RunPost.mk ?_
      refine Txt.Ty.wpTr_done (by rfl) ⟨.head _, .tail _ (.head _), .tail _ (.head _), trivial⟩ ?_
      go_wp2
      go_meet
      case rel =>
        have hk := keep_set2 y2 B (.int .i64 rr) (.slice va vn vc)
        exact ⟨B, rr, er, va, vn, vc, rfl, rfl, heap_set2 HBX.out _ _, by omega, hB1, HBL2.out.trans (hk.below HBL2.out.size (fun f hf => by rw [List.mem_singleton.1 hf]; exact hB1)), HP2.out.keep hk HBX.out⟩
  case rest =>
    obtain ⟨B, rr, er, va, vn, vc, rfl, rfl, hbx, hBs, hB1, hbl, hp⟩ := hcut
    obtain ⟨w1, hw1⟩ : ∃ X, X = wc := ⟨_, rfl⟩
    rw [← hw1] at hbx hbl hp ⊢
    have HST1 := Lib.hid (HST.out.below hbl)
    have HBX := Lib.hid hbx
    have HBL1 := Lib.hid hbl
    have hz1 := hbl.size
    rcases hp with ⟨rfl, hc, rfl, ho⟩ | ⟨rfl, hc, rfl, hv0⟩
    · have hr : Hid (pongV x ms m0 = { x with wt := less x.wt ms }) := Lib.hid (by unfold pongV; rw [if_pos hc])
      have HO := Lib.hid ho
      have g0 := box_at hbx (j := 0) rfl
      have g1 := box_at hbx (j := 1) rfl
      have s0 := box_at HST1.out.box (j := 0) rfl
      have s1 := box_at HST1.out.box (j := 1) rfl
      have f0 := box_free HST1.out.box 0
      have f1 := box_free HST1.out.box 1
      clear hw1 hbx hbl hc ho
      go_wp2
      go_ret2
      have hk := keep_set2 w1 s (.int .i64 x.r) (.slice va vn vc)
      have hown := own_keep HST1.out.row hk (fun q hq hm => HST1.out.ne q hq (by simpa using hm))
      have hbox : ((w1.setCell ⟨s, 0, none⟩ (.int .i64 x.r)).setCell ⟨s, 1, none⟩ (.slice va vn vc)).heap[s]? = some (.cells #[.int .i64 x.r, .slice va vn vc, hv] 41 (0, 0)) := by
        simp only [World.setCell, Array.getElem?_modify]; simp [HST1.out.box]
      have hwt := own_keep HO.out hk (fun q hq hm => by
        rw [List.mem_singleton] at hm
        obtain ⟨cur, hc⟩ := own_type HO.out hq
        rw [hm, HST1.out.box] at hc; cases hc)
      refine ⟨(HBL1.out.mono hbw).trans (hk.below (by omega) (fun f hf => by rw [List.mem_singleton.1 hf]; exact hlo)), (KS.of_below HBL1.out).put hk (.inl rfl), ?_⟩
      dsimp only
      rw [hr.out]
      exact ⟨_, .slice va vn vc, hv, rfl, Raw.empty _ _ _, fun q hq => (by cases hq), ⟨hbox, hown, HST1.out.ne, hlo⟩, hwt⟩
    · have hr : Hid (pongV x ms m0 = x) := Lib.hid (by unfold pongV; rw [if_neg hc])
      clear hw1 hbx hbl hc hv0
      go_wp2
      go_ret2
      refine ⟨HBL1.out.mono hbw, KS.of_below HBL1.out, ?_⟩
      dsimp only
      rw [hr.out]
      exact ⟨_, _, hv, rfl, Raw.empty _ _ _, fun q hq => (by cases hq), HST1.out, own_below HWS.out HBL1.out (Nat.le_refl _)⟩
end Go.Proofs.YthmnhpakgjnngaaGreatDoor
