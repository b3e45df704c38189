/- Revive: Same, SameMsg, SameEffects -/
import Derived.Test.YthmnhpakgjnngaaGreatDoorVl
import Derived.Test.YthmnhpakgjnngaaGreatDoorM2
import Derived.Deep.CutRange
import Derived.WalkMore
namespace Go.Rv
open Go Go.RowKit Go.Bs Go.Cl Go.Rw Go.Dt
def efAt (l : List Ef) (k : Nat) : Ef := l.getD k ⟨0, 0, 0, 0, 0, 0⟩
theorem ef_get {l : List Ef} {k : Nat} (h : k < l.length) : l[k]? = some (efAt l k) := by simp [efAt, h]
theorem SlE.elem {w : World} {a : Option Addr} {n c : Nat} {l : List Ef} (h : SlE w (.slice a n c) l) {k : Nat} (hk : k < l.length) :
    ∃ b off, a = some ⟨b, off, none⟩ ∧ b < w.heap.size ∧ ∀ j u, (encE (efAt l k))[j]? = some u → w.cell? ⟨b, off + (k * 15 + j), none⟩ = some u := by
  rcases Raw.cases h with ⟨h0, _⟩ | ⟨_, b, off, cap, hv, _, _, hb, _, hc⟩
  · omega
  · cases hv
    refine ⟨b, off, rfl, hb, fun j u hu => hc _ _ ?_⟩
    rw [← hu]
    have hj : j < 15 := by
      have := (List.getElem?_eq_some_iff.1 hu).1
      rwa [encE_len] at this
    exact flat_get encE encE_len l k j _ (ef_get hk) hj
def effM (x : Ef) : Value := .agg #[.int .i64 0, .int .i64 x.md, .int .i64 x.mc, .int .i64 0, .int .i64 x.ma, .int .i64 0, .int .i64 0, .int .i64 0, .slice none 0 0]
end Go.Rv
namespace Go.Proofs.YthmnhpakgjnngaaGreatDoor
open Go.RowKit Go.Bs Go.Cl Go.Rw Go.Dt Go.Rv Go.Wi
set_option maxRecDepth 100000 in
theorem same_any (v1 v2 : Value) (l1 l2 : List UInt8) (w : World) (h1 : Bytes [] w v1 l1) (h2 : Bytes [] w v2 l2) : Calls Tryz.prog 33 #[v1, v2] w fun e w' => e = .returned (.bool (decide (l1 = l2))) ∧ w = w' := by
  have k1 := run_str h1 28 5 9 Tryz.underlying28 Tryz.underlying5 Tryz.underlying9
  have k2 := run_str h2 28 5 9 Tryz.underlying28 Tryz.underlying5 Tryz.underlying9
  go_enter Tryz.func33, Tryz.ntmps33
  by_cases h : l1 = l2
  · subst h
    go_wp2
    go_ret
    exact ⟨by simp, rfl⟩
  · have hs : ¬ strOf l1 = strOf l2 := fun e => h (strOf_inj e)
    go_wp2
    go_ret
    refine ⟨?_, rfl⟩
    have e : ∀ l : List UInt8, (strOf l).toList = l := fun l => ByteArray.toList_mk l
    simp [h, e]
theorem same_nil (w : World) : Calls Tryz.prog 33 #[.slice none 0 0, .slice none 0 0] w fun e w' => e = .returned (.bool true) ∧ w = w' := same_any _ _ [] [] w (Raw.empty _ _ _) (Raw.empty _ _ _)
set_option maxRecDepth 100000 in
set_option maxHeartbeats 4000000 in
theorem samemsg_any (x : Ef) (w : World) : Calls Tryz.prog 32 #[effM x, effM x] w fun e w' => e = .returned (.bool true) ∧ Below w.heap.size w w' := by
  unfold effM
  have heq := fun a b c d a' b' c' d' w => eqA4 a b c d a' b' c' d' w
  have hg25 := egA4
  obtain ⟨C, hC⟩ : ∃ C : Array Value, C = #[.int .i64 0, .int .i64 x.md, .int .i64 x.mc, .int .i64 0, .int .i64 x.ma, .int .i64 0, .int .i64 0, .int .i64 0, .slice none 0 0] := ⟨_, rfl⟩
  have hb : Below w.heap.size w ((w.alloc (.cells C 31)).alloc (.cells C 31)) := ((Below.refl _ w).alloc (Nat.le_refl _) _).alloc (by simp) _
  obtain ⟨w2, hw2⟩ : ∃ W, W = (w.alloc (.cells C 31)).alloc (.cells C 31) := ⟨_, rfl⟩
  have hA : w2.heap[w.heap.size]? = some (.cells C 31 (0, 0)) := by rw [hw2]; exact (Below.heap_alloc (w.alloc (.cells C 31)) _ _ (by simp)).trans (heap_alloc_new w _)
  have hB : w2.heap[w.heap.size + 1]? = some (.cells C 31 (0, 0)) := by
    rw [hw2]
    have := heap_alloc_new (w.alloc (.cells C 31)) (.cells C 31)
    simpa using this
  rw [← hw2] at hb
  rw [hC] at hA hB hw2
  have HW2 := Lib.hid hw2
  have HA := Lib.hid hA; have HB := Lib.hid hB
  clear hw2 hA hB hC
  go_enter Tryz.func32, Tryz.ntmps32
  go_upto_region 1 with (fail)
  rw [← HW2.out]
  clear HW2
  have a_0 := box_at HA.out (j := 0) rfl
  have b_0 := box_at HB.out (j := 0) rfl
  have a_1 := box_at HA.out (j := 1) rfl
  have b_1 := box_at HB.out (j := 1) rfl
  have a_2 := box_at HA.out (j := 2) rfl
  have b_2 := box_at HB.out (j := 2) rfl
  have a_3 := box_at HA.out (j := 3) rfl
  have b_3 := box_at HB.out (j := 3) rfl
  have a_4 := box_at HA.out (j := 4) rfl
  have b_4 := box_at HB.out (j := 4) rfl
  have a_5 := box_at HA.out (j := 5) rfl
  have b_5 := box_at HB.out (j := 5) rfl
  have a_6 := box_at HA.out (j := 6) rfl
  have b_6 := box_at HB.out (j := 6) rfl
  have a_7 := box_at HA.out (j := 7) rfl
  have b_7 := box_at HB.out (j := 7) rfl
  have a_8 := box_at HA.out (j := 8) rfl
  have b_8 := box_at HB.out (j := 8) rfl
  go_wp2_with fail
  refine (same_nil _).mono ?_
  rintro e w' ⟨rfl, rfl⟩
  go_wp2
  go_ret
  exact ⟨by simp, hb⟩
set_option maxRecDepth 100000 in
set_option maxHeartbeats 8000000 in
theorem sameeff_any (v1 v2 : Value) (es : List Ef) (w : World) (hl : es.length ≤ 1000) (h1 : SlE w v1 es) (h2 : SlE w v2 es) :
    Calls Tryz.prog 10 #[v1, v2] w fun e w' => e = .returned (.bool true) ∧ Below w.heap.size w w' := by
  obtain ⟨a1, c1, rfl⟩ := Raw.slice h1
  obtain ⟨a2, c2, rfl⟩ := Raw.slice h2
  have H1 := Lib.hid h1; have H2 := Lib.hid h2; clear h1 h2
  have heq := fun a b c d a' b' c' d' w => eqA4 a b c d a' b' c' d' w
  have hg25 := egA4
  go_enter Tryz.func10, Tryz.ntmps10
  go_wp2
  go_loopw [5] (fun i wr => ∃ k : Nat, k ≤ es.length ∧ i = .int .i64 k ∧ Below w.heap.size w wr) (fun i _ => es.length - (intOf i).toNat)
  case atStart => exact ⟨0, by omega, rfl, Below.refl _ _⟩
  case round =>
    obtain ⟨k, hk, rfl, hbel⟩ := hrel
    have hsz := hbel.size
    by_cases hlt : k < es.length
    · go_upto_region 6 with (fail)
      refine Txt.Ty.wp_tree [] [] [] [4, 9, 16, 21, 29, 34, 43, 48] [0, 1, 2, 3, 4, 5, 6, 7, 8, 9, 10, 11, 12, 13, 14, 15, 16, 17, 18, 19, 20, 21, 22, 23, 24, 25, 26, 27, 28, 29, 30, 31, 32, 33, 34] (.alt [35, 36, 37, 38, 39, 40, 41, 42, 43, 44, 45, 46, 47, 48] (.alt [49, 50, 51] (.done) (.no)) (.no)) (by kernel_rfl) (by kernel_rfl) (by kernel_rfl) (by kernel_rfl) (fun b hb => by cases hb) ?_
      obtain ⟨y0, hy0⟩ : ∃ y, y = wr.drew := ⟨_, rfl⟩
      rw [← hy0]
      have hd : Below wr.heap.size wr y0 := by rw [hy0]; exact (Below.refl _ _).drew
      have bel0 := hbel.trans (hd.mono hsz)
      obtain ⟨q1, o1, rfl, _, hc1⟩ := (H1.out.below bel0).elem hlt
      obtain ⟨q2, o2, rfl, _, hc2⟩ := (H2.out.below bel0).elem hlt
      obtain ⟨z, hz⟩ : ∃ z, efAt es k = z := ⟨_, rfl⟩
      have HZ := Lib.hid hz
      rw [hz] at hc1 hc2
      clear hd hy0 hbel hsz hz
      have a_0 := hc1 0 _ rfl
      have b_0 := hc2 0 _ rfl
      have a_1 := hc1 1 _ rfl
      have b_1 := hc2 1 _ rfl
      have a_2 := hc1 2 _ rfl
      have b_2 := hc2 2 _ rfl
      have a_3 := hc1 3 _ rfl
      have b_3 := hc2 3 _ rfl
      have a_4 := hc1 4 _ rfl
      have b_4 := hc2 4 _ rfl
      have a_5 := hc1 5 _ rfl
      have b_5 := hc2 5 _ rfl
      have a_6 := hc1 6 _ rfl
      have b_6 := hc2 6 _ rfl
      have a_7 := hc1 7 _ rfl
      have b_7 := hc2 7 _ rfl
      have a_8 := hc1 8 _ rfl
      have b_8 := hc2 8 _ rfl
      have a_9 := hc1 9 _ rfl
      have b_9 := hc2 9 _ rfl
      have a_10 := hc1 10 _ rfl
      have b_10 := hc2 10 _ rfl
      have a_11 := hc1 11 _ rfl
      have b_11 := hc2 11 _ rfl
      have a_12 := hc1 12 _ rfl
      have b_12 := hc2 12 _ rfl
      have a_13 := hc1 13 _ rfl
      have b_13 := hc2 13 _ rfl
      have a_14 := hc1 14 _ rfl
      have b_14 := hc2 14 _ rfl
      simp only [← Nat.add_assoc, Nat.add_zero] at a_0 b_0 a_1 b_1 a_2 b_2 a_3 b_3 a_4 b_4 a_5 b_5 a_6 b_6 a_7 b_7 a_8 b_8 a_9 b_9 a_10 b_10 a_11 b_11 a_12 b_12 a_13 b_13 a_14 b_14
      clear hc1 hc2
      (try simp only [Txt.pick, List.getElem?_cons_succ, List.getElem?_cons_zero])
      go_wp2
      refine Txt.RunPost.mk ?_
      refine Txt.Ty.wpTr_alt ?_ Txt.Ty.wpTr_no
      (try simp only [Txt.pick, List.getElem?_cons_succ, List.getElem?_cons_zero])
      go_wp2_with fail
      refine (samemsg_any z _).mono ?_
      rintro e y1 ⟨rfl, hb1⟩
      have bel1 := bel0.trans (hb1.mono bel0.size)
      obtain ⟨q1', o1', e1, _, hc1⟩ := (H1.out.below bel1).elem hlt
      obtain ⟨q2', o2', e2, _, hc2⟩ := (H2.out.below bel1).elem hlt
      cases e1
      cases e2
      rw [HZ.out] at hc1 hc2
      clear hb1 a_0 b_0 a_1 b_1 a_2 b_2 a_3 b_3 a_4 b_4 a_5 b_5 a_6 b_6 a_7 b_7 a_8 b_8 a_9 b_9 a_10 b_10 a_11 b_11 a_12 b_12 a_13 b_13 a_14 b_14
      have a_0 := hc1 0 _ rfl
      have b_0 := hc2 0 _ rfl
      have a_1 := hc1 1 _ rfl
      have b_1 := hc2 1 _ rfl
      have a_2 := hc1 2 _ rfl
      have b_2 := hc2 2 _ rfl
      have a_3 := hc1 3 _ rfl
      have b_3 := hc2 3 _ rfl
      have a_4 := hc1 4 _ rfl
      have b_4 := hc2 4 _ rfl
      have a_5 := hc1 5 _ rfl
      have b_5 := hc2 5 _ rfl
      have a_6 := hc1 6 _ rfl
      have b_6 := hc2 6 _ rfl
      have a_7 := hc1 7 _ rfl
      have b_7 := hc2 7 _ rfl
      have a_8 := hc1 8 _ rfl
      have b_8 := hc2 8 _ rfl
      have a_9 := hc1 9 _ rfl
      have b_9 := hc2 9 _ rfl
      have a_10 := hc1 10 _ rfl
      have b_10 := hc2 10 _ rfl
      have a_11 := hc1 11 _ rfl
      have b_11 := hc2 11 _ rfl
      have a_12 := hc1 12 _ rfl
      have b_12 := hc2 12 _ rfl
      have a_13 := hc1 13 _ rfl
      have b_13 := hc2 13 _ rfl
      have a_14 := hc1 14 _ rfl
      have b_14 := hc2 14 _ rfl
      simp only [← Nat.add_assoc, Nat.add_zero] at a_0 b_0 a_1 b_1 a_2 b_2 a_3 b_3 a_4 b_4 a_5 b_5 a_6 b_6 a_7 b_7 a_8 b_8 a_9 b_9 a_10 b_10 a_11 b_11 a_12 b_12 a_13 b_13 a_14 b_14
      clear hc1 hc2
      go_wp2
      refine Txt.SegPost.mk Txt.Ty.Shown.none ?_
      (try simp only [Txt.pick, List.getElem?_cons_succ, List.getElem?_cons_zero])
      go_wp2
      refine Txt.RunPost.mk ?_
      refine Txt.Ty.wpTr_alt ?_ Txt.Ty.wpTr_no
      (try simp only [Txt.pick, List.getElem?_cons_succ, List.getElem?_cons_zero])
      go_wp2_with fail
      refine (same_nil _).mono ?_
      rintro e y2 ⟨rfl, rfl⟩
      go_wp2
      refine Txt.SegPost.mk Txt.Ty.Shown.none ?_
      (try simp only [Txt.pick, List.getElem?_cons_succ, List.getElem?_cons_zero])
      go_wp2
      refine Txt.RunPost.mk ?_
      refine Txt.Ty.wpTr_done (by rfl) trivial ?_
      go_wp2
      go_roundw
      case rel => exact ⟨k + 1, hlt, by go_num, bel1⟩
      case measure => simp [intOf]; omega
    · obtain rfl : k = es.length := by omega
      go_wp2
      go_ret
      exact ⟨rfl, hbel⟩
end Go.Proofs.YthmnhpakgjnngaaGreatDoor
