/- Revive: the reference's Failures, failed -/
import Derived.Test.YthmnhpakgjnngaaGreatDoorYf
import Derived.Test.YthmnhpakgjnngaaGreatDoorXf
import Derived.Test.YthmnhpakgjnngaaGreatDoorVl
import Derived.Deep.CutRange
import Derived.WalkMore
namespace Go.Rv
open Go Go.RowKit Go.Bs Go.Cl Go.Rw Go.Dt
/-- the histories looked at, with a new one -/
def fF (hs : List Hs) (X : Hs) (k : Nat) : List Hs := (hs.take k).filter (fun z => z.t < X.t) ++ X :: (hs.take k).filter (fun z => X.t < z.t)
def FInv (hs : List Hs) (X : Hs) (k : Nat) (out : List Hs) (d : Bool) : Prop := if d then (∃ j, j < k ∧ X.t ≤ (hsAt hs j).t) ∧ out = fF hs X k else (∀ j, j < k → (hsAt hs j).t < X.t) ∧ out = hs.take k
theorem take_hs1 {hs : List Hs} {k : Nat} (h : k < hs.length) : hs.take (k + 1) = hs.take k ++ [hsAt hs k] := by
  rw [List.take_add_one, hs_get h]; simp
theorem FInv.start (hs : List Hs) (X : Hs) : FInv hs X 0 [] false := ⟨fun j hj => absurd hj (Nat.not_lt_zero _), rfl⟩
theorem filt_lt {hs : List Hs} {X : Hs} {k : Nat} (h : ∀ j, j < k → (hsAt hs j).t < X.t) : (hs.take k).filter (fun z => z.t < X.t) = hs.take k ∧ (hs.take k).filter (fun z => X.t < z.t) = [] := by
  have ht := take_lt (l := hs) (i := k) (t := X.t) h
  exact ⟨List.filter_eq_self.2 (fun z hz => by simpa using ht z hz), List.filter_eq_nil_iff.2 (fun z hz => by have := ht z hz; simp; omega)⟩
theorem FInv.lt {hs out : List Hs} {X : Hs} {k : Nat} (h : FInv hs X k out false) (hk : k < hs.length) (hlt : (hsAt hs k).t < X.t) : FInv hs X (k + 1) (out ++ [hsAt hs k]) false := by
  obtain ⟨h1, h2⟩ := h
  refine ⟨fun j hj => ?_, by rw [take_hs1 hk, h2]⟩
  by_cases hjk : j < k
  · exact h1 j hjk
  · obtain rfl : j = k := by omega
    exact hlt
theorem FInv.eq {hs out : List Hs} {X : Hs} {k : Nat} (h : FInv hs X k out false) (hk : k < hs.length) (he : (hsAt hs k).t = X.t) : FInv hs X (k + 1) (out ++ [X]) true := by
  obtain ⟨h1, h2⟩ := h
  refine ⟨⟨k, by omega, by omega⟩, ?_⟩
  unfold fF
  obtain ⟨f1, f2⟩ := filt_lt h1
  rw [take_hs1 hk, List.filter_append, List.filter_append, f1, f2, h2]
  simp [he]
theorem FInv.gt {hs out : List Hs} {X : Hs} {k : Nat} (h : FInv hs X k out false) (hk : k < hs.length) (he : X.t < (hsAt hs k).t) : FInv hs X (k + 1) ((out ++ [X]) ++ [hsAt hs k]) true := by
  obtain ⟨h1, h2⟩ := h
  refine ⟨⟨k, by omega, by omega⟩, ?_⟩
  unfold fF
  obtain ⟨f1, f2⟩ := filt_lt h1
  have hn : ¬ (hsAt hs k).t < X.t := by omega
  rw [take_hs1 hk, List.filter_append, List.filter_append, f1, f2, h2]
  simp [he, hn]
theorem FInv.later {hs out : List Hs} {X : Hs} {k : Nat} (hs0 : Srt hs) (h : FInv hs X k out true) (hk : k < hs.length) : X.t < (hsAt hs k).t := by
  obtain ⟨⟨j, hj, hx⟩, _⟩ := h
  have := srt_at hs0 hj hk
  omega
theorem FInv.more {hs out : List Hs} {X : Hs} {k : Nat} (hs0 : Srt hs) (h : FInv hs X k out true) (hk : k < hs.length) : FInv hs X (k + 1) (out ++ [hsAt hs k]) true := by
  have he := h.later hs0 hk
  obtain ⟨⟨j, hj, hx⟩, h2⟩ := h
  refine ⟨⟨j, by omega, hx⟩, ?_⟩
  have hn : ¬ (hsAt hs k).t < X.t := by omega
  rw [h2]
  unfold fF
  rw [take_hs1 hk, List.filter_append, List.filter_append]
  simp [he, hn]
theorem FInv.stop {hs out : List Hs} {X : Hs} (h : FInv hs X hs.length out true) : out = putH hs X := by
  obtain ⟨_, h2⟩ := h
  rw [h2]; unfold fF putH; rw [List.take_length]
theorem FInv.last {hs out : List Hs} {X : Hs} (h : FInv hs X hs.length out false) : out ++ [X] = putH hs X := by
  obtain ⟨h1, h2⟩ := h
  obtain ⟨f1, f2⟩ := filt_lt h1
  rw [List.take_length] at f1 f2 h2
  unfold putH
  rw [f1, f2, h2]
end Go.Rv
namespace Go.Proofs.YthmnhpakgjnngaaGreatDoor
open Go.RowKit Go.Bs Go.Cl Go.Rw Go.Dt Go.Rv
set_option maxRecDepth 100000 in
set_option maxHeartbeats 2000000 in
theorem rfails_any (r : Int) (wv hv : Value) (hs : List Hs) (t : Int) (w : World) (hl : hs.length ≤ 1000) (h : SlH w hv hs) :
    Calls Tryz.prog 48 #[.agg #[.int .i64 r, wv, hv], .int .i64 t] w fun e w' => e = .returned (.int .i64 (cntH hs t)) ∧ Below w.heap.size w w' := by
  obtain ⟨ha, hc, rfl⟩ := Raw.slice h
  obtain ⟨W, hW⟩ : ∃ W, W = w.alloc (.cells #[.int .i64 r, wv, .slice ha hs.length hc] 27) := ⟨_, rfl⟩
  have hb : Below w.heap.size w W := by rw [hW]; exact (Below.refl w.heap.size w).alloc (Nat.le_refl _) _
  have hx : W.heap[w.heap.size]? = some (.cells #[.int .i64 r, wv, .slice ha hs.length hc] 27 (0, 0)) := by rw [hW]; exact heap_alloc_new w _
  obtain ⟨S, hS⟩ : ∃ S, S = w.heap.size := ⟨_, rfl⟩
  rw [← hS] at hx
  have H2 := Lib.hid (SlH.below h hb)
  have s2 := box_at hx (j := 2) rfl
  have HB := Lib.hid hb; have HX := Lib.hid hx; have HW := Lib.hid hW; have HSe := Lib.hid hS
  clear h hb hx hW hS
  go_enter Tryz.func48, Tryz.ntmps48
  go_upto_region 1 with (fail)
  rw [← HW.out, ← HSe.out]
  clear HW
  go_wp2
  go_loopw [5] (fun i wr => ∃ k : Nat, k ≤ hs.length ∧ i = .int .i64 k ∧ W = wr ∧ ∀ j, j < k → (hsAt hs j).t ≠ t) (fun i _ => hs.length - (intOf i).toNat)
  case atStart => exact ⟨0, Nat.zero_le _, rfl, rfl, fun j hj => absurd hj (Nat.not_lt_zero _)⟩
  case round =>
    obtain ⟨k, hk, rfl, hw, hno⟩ := hrel
    subst hw
    have HN := Lib.hid hno; clear hno
    by_cases hlt : k < hs.length
    · obtain ⟨b, off, rfl, hb, h0, h1, h2⟩ := H2.out.elem hlt
      obtain ⟨y, hy⟩ : ∃ y, y = hsAt hs k := ⟨_, rfl⟩
      rw [← hy] at h0 h1 h2
      have HY := Lib.hid hy; clear hy
      obtain ⟨yt, yn, yc⟩ := y
      dsimp only at h0 h1 h2
      by_cases e : yt = t
      · subst e
        have HR := Lib.hid (show cntH hs yt = yn by rw [seen_first hlt (fun j hj => HN.out j hj) (by rw [← HY.out]), ← HY.out])
        go_wp2
        go_ret
        exact ⟨by rw [HR.out]; rfl, HB.out⟩
      · have he : (yt == t) = false := by simpa using e
        have HE := Lib.hid e; clear e
        go_wp2
        go_roundw
        case rel => exact ⟨k + 1, hlt, by go_num, by first | trivial | rfl, fun j hj => by
          by_cases hjk : j < k
          · exact HN.out j hjk
          · obtain rfl : j = k := by omega
            rw [← HY.out]; exact HE.out⟩
        case measure => simp [intOf]; omega
    · obtain rfl : k = hs.length := by omega
      have HR := Lib.hid (seen_none HN.out)
      go_wp2
      go_ret
      exact ⟨by rw [HR.out]; rfl, HB.out⟩
set_option maxRecDepth 100000 in
set_option maxHeartbeats 16000000 in
theorem rfailed_any (x : Sv) (wv hv : Value) (t c : Int) (w : World) (hok : validH x.hs = true) (h : SlH w hv x.hs) (hwv : ∃ a n c, wv = .slice a n c) :
    Calls Tryz.prog 47 #[.agg #[.int .i64 x.r, wv, hv], .int .i64 t, .int .i64 c] w fun e w' => ∃ hv', e = .returned (.agg #[.int .i64 x.r, wv, hv']) ∧ Raw (List.range w.heap.size) 3 w' hv' (failH x.hs t c).length ((failH x.hs t c).flatMap encH) ∧ Below w.heap.size w w' := by
  obtain ⟨wa, wn, wc, rfl⟩ := hwv
  obtain ⟨wv, hwv⟩ : ∃ wv, wv = Value.slice wa wn wc := ⟨_, rfl⟩
  obtain ⟨ha, hc, rfl⟩ := Raw.slice h
  have hl2 := validH_len hok
  have hcnt := cnt_ok hok t
  have HSRT := Lib.hid (validH_srt hok)
  clear hok
  obtain ⟨C1, hC1⟩ : ∃ C : Array Value, C = #[.int .i64 x.r, .slice wa wn wc, .slice ha x.hs.length hc] := ⟨_, rfl⟩
  have hb : Below w.heap.size w ((w.alloc (.cells C1 27)).alloc (.cells #[.int .i64 0, .slice none 0 0, .slice none 0 0] 27)) := ((Below.refl _ w).alloc (Nat.le_refl _) _).alloc (by simp) _
  obtain ⟨W, hW⟩ : ∃ W, W = (w.alloc (.cells C1 27)).alloc (.cells #[.int .i64 0, .slice none 0 0, .slice none 0 0] 27) := ⟨_, rfl⟩
  have hA : W.heap[w.heap.size]? = some (.cells C1 27 (0, 0)) := by rw [hW]; exact (Below.heap_alloc (w.alloc (.cells C1 27)) _ _ (by simp)).trans (heap_alloc_new w _)
  have hB : W.heap[w.heap.size + 1]? = some (.cells #[.int .i64 0, .slice none 0 0, .slice none 0 0] 27 (0, 0)) := by
    rw [hW]
    have := heap_alloc_new (w.alloc (.cells C1 27)) (.cells #[.int .i64 0, .slice none 0 0, .slice none 0 0] 27)
    simpa using this
  rw [← hW] at hb
  rw [hC1] at hW hA
  obtain ⟨S, hAe⟩ : ∃ A, A = w.heap.size := ⟨_, rfl⟩
  obtain ⟨R, hBe⟩ : ∃ B, B = w.heap.size + 1 := ⟨_, rfl⟩
  rw [← hAe] at hA
  rw [← hBe] at hB
  have hwS : w.heap.size ≤ S := by omega
  have hwR : w.heap.size ≤ R := by omega
  have hSR : S ≠ R := by omega
  have hSW := (Array.getElem?_eq_some_iff.1 hA).1
  have hRW := (Array.getElem?_eq_some_iff.1 hB).1
  have HW := Lib.hid hW; have HAe := Lib.hid hAe; have HBe := Lib.hid hBe
  have HS := Lib.hid hA; have HRx := Lib.hid hB
  have H2 := Lib.hid (SlH.below h hb)
  have Hb := Lib.hid hb
  have s0 := box_at hA (j := 0) rfl
  have s1 := box_at hA (j := 1) rfl
  have s2 := box_at hA (j := 2) rfl
  clear hW hC1 hA hB h hb hAe hBe hwv wv C1
  go_enter Tryz.func47, Tryz.ntmps47
  go_upto_region 1 with (fail)
  rw [← HW.out, ← HBe.out, ← HAe.out]
  clear HW HAe HBe
  go_wp2_with fail
  refine (rfails_any x.r _ _ x.hs t W (by omega) H2.out).mono ?_
  rintro e w1 ⟨rfl, hb1⟩
  obtain ⟨m0, hm0⟩ : ∃ m, cntH x.hs t = m := ⟨_, rfl⟩
  rw [hm0] at hcnt ⊢
  have HM0 := Lib.hid hm0
  have HB1 := Lib.hid hb1
  clear hb1 hm0 s0 s1 s2
  obtain ⟨n0, hn0⟩ : ∃ n, min (m0 + 1) 1000000000 = n := ⟨_, rfl⟩
  have hn1 : min (m0 + 1) 1000000000 = n0 := hn0
  have HN0 := Lib.hid hn0
  have HX : Hid (failH x.hs t c = putH x.hs ⟨t, n0, c⟩) := Lib.hid (by unfold failH; rw [HM0.out, hn0])
  clear hn0
  go_upto_region 2 with (fail)
  clear hn1 hcnt
  go_wp2
  go_loopw [8, 9, 10] (fun ov d i y0 => ∃ (k n : Nat) (out : List Hs) (dd : Bool), k ≤ x.hs.length ∧ n ≤ 2 * k ∧ d = .bool dd ∧ i = .int .i64 k ∧ FInv x.hs ⟨t, n0, c⟩ k out dd ∧ y0.ownsRow W.heap.size 74 3 ov n (out.flatMap encH) ∧ Below W.heap.size W y0) (fun _ _ i _ => x.hs.length - (intOf i).toNat)
  case atStart => exact ⟨0, 0, [], false, Nat.zero_le _, by omega, rfl, rfl, FInv.start _ _, World.ownsRow_nil _ _ _ _, HB1.out⟩
  case round =>
    rename World => y0
    obtain ⟨k, n, out, d, hk, hn, rfl, rfl, hI, hrow, hbel⟩ := hrel
    obtain ⟨oa, oc, rfl⟩ := own_slice hrow
    have HI := Lib.hid hI; have HH0 := Lib.hid hrow; have HB0 := Lib.hid hbel
    clear hI hrow hbel HB1
    by_cases hlt : k < x.hs.length
    · obtain ⟨q1, o1, rfl, hq1, -⟩ := (SlH.below H2.out HB0.out).elem hlt
      obtain ⟨z, hz⟩ : ∃ z, hsAt x.hs k = z := ⟨_, rfl⟩
      have HZ := Lib.hid hz
      clear hz
      have s0 := box_at ((HB0.out.block S hSW).trans HS.out) (j := 0) rfl
      have s2 := box_at ((HB0.out.block S hSW).trans HS.out) (j := 2) rfl
      obtain ⟨_, _, hq, -, e0, e1, e2⟩ := (SlH.below H2.out HB0.out).elem hlt
      cases hq
      rw [HZ.out] at e0 e1 e2
      cases d
      · rcases Int.lt_trichotomy z.t t with hzt | hzt | hzt
        · have hI := Lib.hid (FInv.lt HI.out hlt (by rw [HZ.out]; exact hzt))
          have hz1 : ¬ t ≤ z.t := by omega
          have hz2 : (z.t != t) = true := by simp; omega
          have hz3 : (z.t == t) = false := by simp; omega
          clear hzt
          have hal1 := (Below.refl y0.heap.size y0).alloc (Nat.le_refl _) (.cells #[.int .i64 z.t, .int .i64 z.n, .int .i64 z.c] 74)
          have HHa1 := Lib.hid (own_below HH0.out hal1 (Nat.le_refl _))
          have HXr1 := Lib.hid (boxHs y0.heap.size z (heap_alloc_new y0 (.cells #[.int .i64 z.t, .int .i64 z.n, .int .i64 z.c] 74)))
          have hbel1 := HB0.out.trans (hal1.mono HB0.out.size)
          clear hal1 HH0
          go_wp2_with (at_builtin; refine wpList_appF elG Tryz.underlying25 HHa1.out HXr1.out hbel1 rfl _ _ rfl rfl rfl ?c31 ?cB1 ?c51 ?_)
          all_goals try (first | exact Nat.le_refl _ | omega | exact hbel1.size | (have := HB0.out.size; omega))
          clear hbel1
          intro v1 y1 hown1 hb1 hk1 hn1
          obtain ⟨a1, c1, rfl⟩ := own_slice hown1
          have HH1 : Hid (y1.ownsRow W.heap.size 74 3 (.slice a1 (n + 1) c1) (n + 1) ((out ++ [z]).flatMap encH)) := Lib.hid (by rw [List.flatMap_append]; simpa using hown1)
          have HB1 := Lib.hid hb1
          clear hown1 hb1 hk1 hn1 HHa1 HXr1
          go_wp2
          go_roundw
          case rel => exact ⟨k + 1, n + 1, out ++ [z], false, hlt, by omega, rfl, by go_num, by have := hI.out; rw [HZ.out] at this; exact this, HH1.out, HB1.out⟩
          case measure => simp [intOf]; omega
        · have hI := Lib.hid (FInv.eq HI.out hlt (by rw [HZ.out]; exact hzt))
          subst hzt
          have hal1 := (Below.refl y0.heap.size y0).alloc (Nat.le_refl _) (.cells #[.int .i64 z.t, .int .i64 n0, .int .i64 c] 74)
          have HHa1 := Lib.hid (own_below HH0.out hal1 (Nat.le_refl _))
          have HXr1 := Lib.hid (boxHs y0.heap.size (Hs.mk z.t n0 c) (heap_alloc_new y0 (.cells #[.int .i64 z.t, .int .i64 n0, .int .i64 c] 74)))
          have hbel1 := HB0.out.trans (hal1.mono HB0.out.size)
          clear hal1 HH0
          go_wp2_with (at_builtin; refine wpList_appF elG Tryz.underlying25 HHa1.out HXr1.out hbel1 rfl _ _ rfl rfl rfl ?c32 ?cB2 ?c52 ?_)
          all_goals try (first | exact Nat.le_refl _ | omega | exact hbel1.size | (have := HB0.out.size; omega))
          clear hbel1
          intro v1 y1 hown1 hb1 hk1 hn1
          obtain ⟨a1, c1, rfl⟩ := own_slice hown1
          have HH1 : Hid (y1.ownsRow W.heap.size 74 3 (.slice a1 (n + 1) c1) (n + 1) ((out ++ [(Hs.mk z.t n0 c)]).flatMap encH)) := Lib.hid (by rw [List.flatMap_append]; simpa using hown1)
          have HB1 := Lib.hid hb1
          clear hown1 hb1 hk1 hn1 HHa1 HXr1
          have s0 := box_at ((HB1.out.block S hSW).trans HS.out) (j := 0) rfl
          have s2 := box_at ((HB1.out.block S hSW).trans HS.out) (j := 2) rfl
          obtain ⟨_, _, hq, -, e0, e1, e2⟩ := (SlH.below H2.out HB1.out).elem hlt
          cases hq
          rw [HZ.out] at e0 e1 e2
          go_wp2
          go_roundw
          case rel => exact ⟨k + 1, n + 1, out ++ [⟨z.t, n0, c⟩], true, hlt, by omega, rfl, by go_num, hI.out, HH1.out, HB1.out⟩
          case measure => simp [intOf]; omega
        · have hI := Lib.hid (FInv.gt HI.out hlt (by rw [HZ.out]; exact hzt))
          have hz1 : t ≤ z.t := by omega
          have hz2 : (z.t != t) = true := by simp; omega
          have hz3 : (z.t == t) = false := by simp; omega
          clear hzt
          have hal1 := (Below.refl y0.heap.size y0).alloc (Nat.le_refl _) (.cells #[.int .i64 t, .int .i64 n0, .int .i64 c] 74)
          have HHa1 := Lib.hid (own_below HH0.out hal1 (Nat.le_refl _))
          have HXr1 := Lib.hid (boxHs y0.heap.size (Hs.mk t n0 c) (heap_alloc_new y0 (.cells #[.int .i64 t, .int .i64 n0, .int .i64 c] 74)))
          have hbel1 := HB0.out.trans (hal1.mono HB0.out.size)
          clear hal1 HH0
          go_wp2_with (at_builtin; refine wpList_appF elG Tryz.underlying25 HHa1.out HXr1.out hbel1 rfl _ _ rfl rfl rfl ?c33 ?cB3 ?c53 ?_)
          all_goals try (first | exact Nat.le_refl _ | omega | exact hbel1.size | (have := HB0.out.size; omega))
          clear hbel1
          intro v1 y1 hown1 hb1 hk1 hn1
          obtain ⟨a1, c1, rfl⟩ := own_slice hown1
          have HH1 : Hid (y1.ownsRow W.heap.size 74 3 (.slice a1 (n + 1) c1) (n + 1) ((out ++ [(Hs.mk t n0 c)]).flatMap encH)) := Lib.hid (by rw [List.flatMap_append]; simpa using hown1)
          have HB1 := Lib.hid hb1
          clear hown1 hb1 hk1 hn1 HHa1 HXr1
          have s0 := box_at ((HB1.out.block S hSW).trans HS.out) (j := 0) rfl
          have s2 := box_at ((HB1.out.block S hSW).trans HS.out) (j := 2) rfl
          obtain ⟨_, _, hq, -, e0, e1, e2⟩ := (SlH.below H2.out HB1.out).elem hlt
          cases hq
          rw [HZ.out] at e0 e1 e2
          have hal2 := (Below.refl y1.heap.size y1).alloc (Nat.le_refl _) (.cells #[.int .i64 z.t, .int .i64 z.n, .int .i64 z.c] 74)
          have HHa2 := Lib.hid (own_below HH1.out hal2 (Nat.le_refl _))
          have HXr2 := Lib.hid (boxHs y1.heap.size z (heap_alloc_new y1 (.cells #[.int .i64 z.t, .int .i64 z.n, .int .i64 z.c] 74)))
          have hbel2 := HB1.out.trans (hal2.mono HB1.out.size)
          clear hal2 HH1
          go_wp2_with (at_builtin; refine wpList_appF elG Tryz.underlying25 HHa2.out HXr2.out hbel2 rfl _ _ rfl rfl rfl ?c34 ?cB4 ?c54 ?_)
          all_goals try (first | exact Nat.le_refl _ | omega | exact hbel2.size | (have := HB1.out.size; omega))
          clear hbel2
          intro v2 y2 hown2 hb2 hk2 hn2
          obtain ⟨a2, c2, rfl⟩ := own_slice hown2
          have HH2 : Hid (y2.ownsRow W.heap.size 74 3 (.slice a2 (n + 1 + 1) c2) (n + 1 + 1) (((out ++ [Hs.mk t n0 c]) ++ [z]).flatMap encH)) := Lib.hid (by rw [List.flatMap_append]; simpa using hown2)
          have HB2 := Lib.hid hb2
          clear hown2 hb2 hk2 hn2 HHa2 HXr2
          go_wp2
          go_roundw
          case rel => exact ⟨k + 1, n + 1 + 1, (out ++ [⟨t, n0, c⟩]) ++ [z], true, hlt, by omega, rfl, by go_num, by have := hI.out; rw [HZ.out] at this; exact this, HH2.out, HB2.out⟩
          case measure => simp [intOf]; omega
      · have hzt := FInv.later HSRT.out HI.out hlt
        have hI := Lib.hid (FInv.more HSRT.out HI.out hlt)
        rw [HZ.out] at hzt
        dsimp only at hzt
        have hz2 : (z.t != t) = true := by simp; omega
        have hz3 : (z.t == t) = false := by simp; omega
        clear hzt
        have hal1 := (Below.refl y0.heap.size y0).alloc (Nat.le_refl _) (.cells #[.int .i64 z.t, .int .i64 z.n, .int .i64 z.c] 74)
        have HHa1 := Lib.hid (own_below HH0.out hal1 (Nat.le_refl _))
        have HXr1 := Lib.hid (boxHs y0.heap.size z (heap_alloc_new y0 (.cells #[.int .i64 z.t, .int .i64 z.n, .int .i64 z.c] 74)))
        have hbel1 := HB0.out.trans (hal1.mono HB0.out.size)
        clear hal1 HH0
        go_wp2_with (at_builtin; refine wpList_appF elG Tryz.underlying25 HHa1.out HXr1.out hbel1 rfl _ _ rfl rfl rfl ?c35 ?cB5 ?c55 ?_)
        all_goals try (first | exact Nat.le_refl _ | omega | exact hbel1.size | (have := HB0.out.size; omega))
        clear hbel1
        intro v1 y1 hown1 hb1 hk1 hn1
        obtain ⟨a1, c1, rfl⟩ := own_slice hown1
        have HH1 : Hid (y1.ownsRow W.heap.size 74 3 (.slice a1 (n + 1) c1) (n + 1) ((out ++ [z]).flatMap encH)) := Lib.hid (by rw [List.flatMap_append]; simpa using hown1)
        have HB1 := Lib.hid hb1
        clear hown1 hb1 hk1 hn1 HHa1 HXr1
        go_wp2
        go_roundw
        case rel => exact ⟨k + 1, n + 1, out ++ [z], true, hlt, by omega, rfl, by go_num, by have := hI.out; rw [HZ.out] at this; exact this, HH1.out, HB1.out⟩
        case measure => simp [intOf]; omega
    · obtain rfl : k = x.hs.length := by omega
      have s2 := box_at ((HB0.out.block S hSW).trans HS.out) (j := 2) rfl
      cases d
      · have hal1 := (Below.refl y0.heap.size y0).alloc (Nat.le_refl _) (.cells #[.int .i64 t, .int .i64 n0, .int .i64 c] 74)
        have HHa1 := Lib.hid (own_below HH0.out hal1 (Nat.le_refl _))
        have HXr1 := Lib.hid (boxHs y0.heap.size (Hs.mk t n0 c) (heap_alloc_new y0 (.cells #[.int .i64 t, .int .i64 n0, .int .i64 c] 74)))
        have hbel1 := HB0.out.trans (hal1.mono HB0.out.size)
        clear hal1 HH0
        go_wp2_with (at_builtin; refine wpList_appF elG Tryz.underlying25 HHa1.out HXr1.out hbel1 rfl _ _ rfl rfl rfl ?c36 ?cB6 ?c56 ?_)
        all_goals try (first | exact Nat.le_refl _ | omega | exact hbel1.size | (have := HB0.out.size; omega))
        clear hbel1
        intro v1 y1 hown1 hb1 hk1 hn1
        obtain ⟨a1, c1, rfl⟩ := own_slice hown1
        have HH1 : Hid (y1.ownsRow W.heap.size 74 3 (.slice a1 (n + 1) c1) (n + 1) ((out ++ [(Hs.mk t n0 c)]).flatMap encH)) := Lib.hid (by rw [List.flatMap_append]; simpa using hown1)
        have HB1 := Lib.hid hb1
        clear hown1 hb1 hk1 hn1 HHa1 HXr1
        have hsy1 := (HB1.out.block S hSW).trans HS.out
        have hry1 := (HB1.out.block R hRW).trans HRx.out
        have s0 := box_at hsy1 (j := 0) rfl
        have s1 := box_at hsy1 (j := 1) rfl
        have s2 := box_at hsy1 (j := 2) rfl
        have g2 := box_free hsy1 2
        have hk1 : Keep [S] y1 (y1.setCell ⟨S, 2, none⟩ (.slice a1 (n + 1) c1)) := (Keep.refl [S] y1).setCell (by simp) _
        have hr2 := (hk1.block R (Array.getElem?_eq_some_iff.1 hry1).1 (by simpa using hSR.symm)).trans hry1
        have r0 := box_at hr2 (j := 0) rfl
        have r1 := box_at hr2 (j := 1) rfl
        have r2 := box_at hr2 (j := 2) rfl
        have k0 := box_free hr2 0
        have k1 := box_free hr2 1
        have k2 := box_free hr2 2
        have q2 := box_at (heap_set2' hsy1 (.slice a1 (n + 1) c1)) (j := 2) rfl
        have q0 := box_at (heap_set2' hsy1 (.slice a1 (n + 1) c1)) (j := 0) rfl
        have q1 := box_at (heap_set2' hsy1 (.slice a1 (n + 1) c1)) (j := 1) rfl
        obtain ⟨wE, hwE⟩ : ∃ W, W = y1.setCell ⟨S, 2, none⟩ (.slice a1 (n + 1) c1) := ⟨_, rfl⟩
        rw [← hwE] at hk1 hr2 r0 r1 r2 k0 k1 k2 q0 q1 q2
        have HWE := Lib.hid hwE; have HK1 := Lib.hid hk1; have HR2 := Lib.hid hr2
        clear hsy1 hry1 hwE hk1 hr2
        go_upto_region 15 with (fail)
        rw [← HWE.out]
        clear s0 s1 s2 g2 HWE
        go_wp2
        refine bodyPost_ret (results_c rfl _ _ _ _ _ _ _ rfl (heap_set3 HR2.out _ _ _) Tryz.underlying27 rfl (by kernel_rfl)) rfl ?_
        have hk := keep_set3 wE R (.int .i64 x.r) (.slice wa wn wc) (.slice a1 (n + 1) c1)
        have hb0 := Hb.out.trans (HB1.out.mono Hb.out.size)
        have hb1 := hb0.trans (HK1.out.below hb0.size (fun f hf => by rw [List.mem_singleton.1 hf]; exact hwS))
        refine ⟨_, rfl, ?_, hb1.trans (hk.below hb1.size (fun f hf => by rw [List.mem_singleton.1 hf]; exact hwR))⟩
        have ho := own_keep (own_keep HH1.out HK1.out (fun q hq hm => by have := (HH1.out.lt q hq).1; rw [List.mem_singleton] at hm; omega)) hk (fun q hq hm => by have := (HH1.out.lt q hq).1; rw [List.mem_singleton] at hm; omega)
        rw [HX.out, ← HI.out.last]
        have hn := ho.1
        rw [flat_length encH encH_len] at hn
        have hn : n + 1 = (out ++ [Hs.mk t n0 c]).length := by omega
        rw [hn] at ho ⊢
        exact Raw.of_own (own_base ho Hb.out.size) (encH_one _) (fun f hf => List.mem_range.1 hf)
      · have hsy0 := (HB0.out.block S hSW).trans HS.out
        have hry0 := (HB0.out.block R hRW).trans HRx.out
        have s0 := box_at hsy0 (j := 0) rfl
        have s1 := box_at hsy0 (j := 1) rfl
        have s2 := box_at hsy0 (j := 2) rfl
        have g2 := box_free hsy0 2
        have hk1 : Keep [S] y0 (y0.setCell ⟨S, 2, none⟩ (.slice oa (n) oc)) := (Keep.refl [S] y0).setCell (by simp) _
        have hr2 := (hk1.block R (Array.getElem?_eq_some_iff.1 hry0).1 (by simpa using hSR.symm)).trans hry0
        have r0 := box_at hr2 (j := 0) rfl
        have r1 := box_at hr2 (j := 1) rfl
        have r2 := box_at hr2 (j := 2) rfl
        have k0 := box_free hr2 0
        have k1 := box_free hr2 1
        have k2 := box_free hr2 2
        have q2 := box_at (heap_set2' hsy0 (.slice oa (n) oc)) (j := 2) rfl
        have q0 := box_at (heap_set2' hsy0 (.slice oa (n) oc)) (j := 0) rfl
        have q1 := box_at (heap_set2' hsy0 (.slice oa (n) oc)) (j := 1) rfl
        obtain ⟨wE, hwE⟩ : ∃ W, W = y0.setCell ⟨S, 2, none⟩ (.slice oa (n) oc) := ⟨_, rfl⟩
        rw [← hwE] at hk1 hr2 r0 r1 r2 k0 k1 k2 q0 q1 q2
        have HWE := Lib.hid hwE; have HK1 := Lib.hid hk1; have HR2 := Lib.hid hr2
        clear hsy0 hry0 hwE hk1 hr2
        go_upto_region 15 with (fail)
        rw [← HWE.out]
        clear s0 s1 s2 g2 HWE
        go_wp2
        refine bodyPost_ret (results_c rfl _ _ _ _ _ _ _ rfl (heap_set3 HR2.out _ _ _) Tryz.underlying27 rfl (by kernel_rfl)) rfl ?_
        have hk := keep_set3 wE R (.int .i64 x.r) (.slice wa wn wc) (.slice oa (n) oc)
        have hb0 := Hb.out.trans (HB0.out.mono Hb.out.size)
        have hb1 := hb0.trans (HK1.out.below hb0.size (fun f hf => by rw [List.mem_singleton.1 hf]; exact hwS))
        refine ⟨_, rfl, ?_, hb1.trans (hk.below hb1.size (fun f hf => by rw [List.mem_singleton.1 hf]; exact hwR))⟩
        have ho := own_keep (own_keep HH0.out HK1.out (fun q hq hm => by have := (HH0.out.lt q hq).1; rw [List.mem_singleton] at hm; omega)) hk (fun q hq hm => by have := (HH0.out.lt q hq).1; rw [List.mem_singleton] at hm; omega)
        rw [HX.out, ← HI.out.stop]
        have hn := ho.1
        rw [flat_length encH encH_len] at hn
        have hn : n = (out).length := by omega
        rw [hn] at ho ⊢
        exact Raw.of_own (own_base ho Hb.out.size) (encH_one _) (fun f hf => List.mem_range.1 hf)
end Go.Proofs.YthmnhpakgjnngaaGreatDoor
