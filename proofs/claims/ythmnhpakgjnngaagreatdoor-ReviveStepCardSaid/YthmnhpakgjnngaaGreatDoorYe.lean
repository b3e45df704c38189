/- Revive: the reference's heartbeats: Pong -/
import Derived.Test.YthmnhpakgjnngaaGreatDoorYd
import Derived.Test.YthmnhpakgjnngaaGreatDoorXb
import Derived.Test.YthmnhpakgjnngaaGreatDoorVj
import Derived.Deep.CutRange
import Derived.WalkMore
namespace Go.Rv
open Go Go.RowKit Go.Bs Go.Cl Go.Rw Go.Dt
theorem heap_put1 {w : World} {g : Nat} {x a : Value} {t : TypeId} (h : w.heap[g]? = some (.cells #[x, a] t (0, 0))) (c : Value) : (w.setCell ⟨g, 1, none⟩ c).heap[g]? = some (.cells #[x, c] t (0, 0)) := by
  simp only [World.setCell, Array.getElem?_modify]
  simp [h]
theorem heap_put2 {w : World} {g : Nat} {x a : Value} {t : TypeId} (h : w.heap[g]? = some (.cells #[x, a] t (0, 0))) (b c : Value) : ((w.setCell ⟨g, 0, none⟩ b).setCell ⟨g, 1, none⟩ c).heap[g]? = some (.cells #[b, c] t (0, 0)) := by
  simp only [World.setCell, Array.getElem?_modify]
  simp [h]
theorem boxIt {w : World} (g : Nat) (x : Int) {t : TypeId} (h : w.heap[g]? = some (.cells #[.int .i64 x] t (0, 0))) : Raw [] 1 w (.slice (some ⟨g, 0, none⟩) 1 1) 1 [.int .i64 x] :=
  Raw.of_block (ys := [Value.int .i64 x]) h (by intro h; cases h) (fun u hu => by rw [List.mem_singleton.1 hu]; rfl) rfl (Nat.le_refl _) (by unfold maxLen; omega)
theorem less_take_ne {l : List Int} {t : Int} {k : Nat} (h : k < l.length) (hne : l[k] ≠ t) : less (l.take (k + 1)) t = less (l.take k) t ++ [l[k]] := by
  unfold less
  rw [← List.take_append_getElem h, List.filter_append]
  congr 1
  simp [hne]
theorem less_take_eq {l : List Int} {t : Int} {k : Nat} (h : k < l.length) (hne : l[k] = t) : less (l.take (k + 1)) t = less (l.take k) t := by
  unfold less
  rw [← List.take_append_getElem h, List.filter_append]
  simp [hne]
/-- what the reference's Pong returns -/
def RetPg (r t rd : Int) (l : List Int) (w : World) (e : Ending) (w' : World) : Prop := Below w.heap.size w w' ∧ if t ∈ l ∧ rd = r then ∃ wv, e = .returned (.tuple #[.agg #[.int .i64 r, wv], .int .i64 0]) ∧ Ints (List.range w.heap.size) w' wv (less l t) else e = .returned (.tuple #[.agg #[.int .i64 0, .slice none 0 0], .int .i64 8])
end Go.Rv
namespace Go.Proofs.YthmnhpakgjnngaaGreatDoor
open Go.RowKit Go.Bs Go.Cl Go.Rw Go.Dt Go.Rv
set_option maxRecDepth 100000 in
set_option maxHeartbeats 8000000 in
theorem rpong_any (r t rd : Int) (v : Value) (l : List Int) (w : World) (hl : l.length ≤ 1000) (h : Ints [] w v l) (ok : OkB r l) :
    Calls Tryz.prog 50 #[.agg #[.int .i64 r, v], .int .i64 t, .int .i64 rd] w (RetPg r t rd l w) := by
  obtain ⟨a, cap, rfl⟩ := Raw.slice h
  obtain ⟨C1, hC1⟩ : ∃ C : Array Value, C = #[.int .i64 r, .slice a l.length cap] := ⟨_, rfl⟩
  have hb : Below w.heap.size w ((w.alloc (.cells C1 24)).alloc (.cells #[.int .i64 0, .slice none 0 0] 24)) := ((Below.refl _ w).alloc (Nat.le_refl _) _).alloc (by simp) _
  obtain ⟨W, hW⟩ : ∃ W, W = (w.alloc (.cells C1 24)).alloc (.cells #[.int .i64 0, .slice none 0 0] 24) := ⟨_, rfl⟩
  have hA : W.heap[w.heap.size]? = some (.cells C1 24 (0, 0)) := by rw [hW]; exact (Below.heap_alloc (w.alloc (.cells C1 24)) _ _ (by simp)).trans (heap_alloc_new w _)
  have hB : W.heap[w.heap.size + 1]? = some (.cells #[.int .i64 0, .slice none 0 0] 24 (0, 0)) := by
    rw [hW]
    have := heap_alloc_new (w.alloc (.cells C1 24)) (.cells #[.int .i64 0, .slice none 0 0] 24)
    simpa using this
  rw [← hW] at hb
  rw [hC1] at hW hA
  obtain ⟨S, hAe⟩ : ∃ A, A = w.heap.size := ⟨_, rfl⟩
  obtain ⟨R, hBe⟩ : ∃ B, B = w.heap.size + 1 := ⟨_, rfl⟩
  rw [← hAe] at hA
  rw [← hBe] at hB
  have hwS : w.heap.size ≤ S := by omega
  have hwR : w.heap.size ≤ R := by omega
  have hSR : S ≠ R := by omega
  have hSW := (Array.getElem?_eq_some_iff.1 hA).1
  have hRW := (Array.getElem?_eq_some_iff.1 hB).1
  have HW := Lib.hid hW; have HAe := Lib.hid hAe; have HBe := Lib.hid hBe
  have HS := Lib.hid hA; have HRx := Lib.hid hB
  have H := Lib.hid (Raw.below h hb)
  have Hb := Lib.hid hb
  clear hW hC1 hA hB h hb hAe hBe
  have hv : okBb r l = true := okBb_iff.2 ok
  have HV := Lib.hid hv
  clear hv ok
  have s0 := box_at HS.out (j := 0) rfl
  have s1 := box_at HS.out (j := 1) rfl
  go_enter Tryz.func50, Tryz.ntmps50
  go_upto_region 1 with (fail)
  rw [← HW.out, ← HBe.out, ← HAe.out]
  clear HW HAe HBe
  go_wp2_with fail
  refine (rvalidB_any r _ l W (by omega) H.out).mono ?_
  rw [HV.out]
  rintro e w1 ⟨rfl, hb1⟩
  have HS1 := Lib.hid ((hb1.block S hSW).trans HS.out)
  have HR1 := Lib.hid ((hb1.block R hRW).trans HRx.out)
  have H1 := Lib.hid (Raw.below H.out hb1)
  have Hb1 := Lib.hid (Hb.out.trans (hb1.mono Hb.out.size))
  have hz1 := hb1.size
  have hSw1 : S < w1.heap.size := by omega
  have hRw1 : R < w1.heap.size := by omega
  clear hb1 s0 s1 HS HRx H Hb hz1
  have s0 := box_at HS1.out (j := 0) rfl
  have s1 := box_at HS1.out (j := 1) rfl
  have r0 := box_at HR1.out (j := 0) rfl
  have r1 := box_at HR1.out (j := 1) rfl
  have k0 := box_free HR1.out 0
  have k1 := box_free HR1.out 1
  have hbad : ∀ a b, Below w.heap.size w ((w1.setCell ⟨R, 0, none⟩ a).setCell ⟨R, 1, none⟩ b) := fun a b => Hb1.out.trans ((keep_set2 w1 R a b).below Hb1.out.size (fun f hf => by rw [List.mem_singleton.1 hf]; exact hwR))
  have HBAD := Lib.hid hbad; clear hbad
  by_cases hrd : rd = r
  · subst hrd
    obtain ⟨HM, hHM⟩ : ∃ B, decide (t ∈ l) = B := ⟨_, rfl⟩
    go_wp2_with fail
    refine (rhas_eq _ l t HM w1 (by omega) H1.out hHM).mono ?_
    rintro e w' ⟨rfl, rfl⟩
    have HHM := Lib.hid hHM; clear hHM
    cases HM
    · go_wp2
      refine bodyPost_ret (results_ct rfl _ _ _ _ _ _ _ rfl (heap_put2 HR1.out _ _) Tryz.underlying24 rfl (by kernel_rfl)) rfl ?_
      unfold RetPg
      rw [if_neg (show ¬ (t ∈ l ∧ rd = rd) from fun h => by have := HHM.out; simp [h.1] at this)]
      exact ⟨HBAD.out _ _, rfl⟩
    · obtain ⟨O, hO⟩ : ∃ O, O = w1.heap.size := ⟨_, rfl⟩
      obtain ⟨w2, hw2⟩ : ∃ W, W = w1.alloc (.cells #[.int .i64 rd, .slice none 0 0] 24) := ⟨_, rfl⟩
      have hb2 : Below w1.heap.size w1 w2 := by rw [hw2]; exact (Below.refl _ _).alloc (Nat.le_refl _) _
      have hx2 : w2.heap[O]? = some (.cells #[.int .i64 rd, .slice none 0 0] 24 (0, 0)) := by rw [hw2, hO]; exact heap_alloc_new w1 _
      have HO2 := Lib.hid hx2
      have HS2 := Lib.hid ((hb2.block S hSw1).trans HS1.out)
      have HR2 := Lib.hid ((hb2.block R hRw1).trans HR1.out)
      have H2 := Lib.hid (Raw.below H1.out hb2)
      have Hb2 := Lib.hid hb2
      have hOw : w1.heap.size ≤ O := by omega
      have HO := Lib.hid hO; have Hw2 := Lib.hid hw2
      clear hb2 hx2 hO hw2 s0 s1 r0 r1 k0 k1
      have s0 := box_at HS1.out (j := 0) rfl
      go_upto_region 6 with (fail)
      rw [← Hw2.out, ← HO.out]
      clear Hw2 s0
      have s1 := box_at HS2.out (j := 1) rfl
      go_wp2
      go_loopw [9] (fun i wr => ∃ (k n : Nat) (ov : Value), k ≤ l.length ∧ n ≤ k ∧ i = .int .i64 k ∧ wr.heap[O]? = some (.cells #[.int .i64 rd, ov] 24 (0, 0)) ∧ wr.ownsRow w1.heap.size 3 1 ov n ((less (l.take k) t).map (Value.int .i64)) ∧ Below w1.heap.size w1 wr) (fun i _ => l.length - (intOf i).toNat)
      case atStart => exact ⟨0, 0, _, Nat.zero_le _, Nat.le_refl _, rfl, HO2.out, World.ownsRow_nil _ _ _ _, Hb2.out⟩
      case round =>
        clear s1 HO2 HS2 HR2 H2 Hb2
        obtain ⟨k, n, ov, hk, hn, rfl, hO, hrow, hbel⟩ := hrel
        obtain ⟨oa, oc, rfl⟩ := own_slice hrow
        have HO2 := Lib.hid hO; have HH := Lib.hid hrow; have HB := Lib.hid hbel
        have hs2 := (hbel.block S hSw1).trans HS1.out
        have HS2 := Lib.hid hs2
        have s1 := box_at hs2 (j := 1) rfl
        clear hO hrow hs2
        by_cases hlt : k < l.length
        · obtain ⟨q, off, cp, he, hq, h0⟩ := Ints.elem (Raw.below H1.out hbel) hlt
          cases he
          obtain ⟨z, hz⟩ : ∃ z, l[k] = z := ⟨_, rfl⟩
          rw [hz] at h0
          by_cases hzt : z = t
          · have HT := Lib.hid (less_take_eq (t := t) hlt (by rw [hz]; exact hzt))
            have hzt1 : (z == t) = true := by simpa using hzt
            have hzt2 : (z != t) = false := by simp [hzt]
            clear hz hzt hbel
            go_wp2
            go_roundw
            case rel => exact ⟨k + 1, n, _, hlt, by omega, by go_num, HO2.out, by rw [HT.out]; exact HH.out, HB.out⟩
            case measure => simp [intOf]; omega
          · have HT := Lib.hid (less_take_ne (t := t) hlt (by rw [hz]; exact hzt))
            have HZ := Lib.hid hz
            have hzt1 : (z == t) = false := by simpa using hzt
            have hzt2 : (z != t) = true := by simpa using hzt
            clear hz hzt hbel
            go_upto_region 10 with (fail)
            have hBl : ∀ q ∈ [O], ∃ cc e f, wr.heap[q]? = some (.cells cc e f) := fun q hq => by rw [List.mem_singleton.1 hq]; exact ⟨_, _, _, HO2.out⟩
            refine Txt.Ty.wp_tree [O] [1] [10] [1, 3, 6] [0, 1, 2, 3, 4, 5, 6] (.alt [7] (.alt [8, 9] (.alt [10] (.done) (.no)) (.no)) (.no)) (by kernel_rfl) (by kernel_rfl) (by kernel_rfl) (by kernel_rfl) hBl ?_
            obtain ⟨y0, hy0⟩ : ∃ y, y = wr.drew := ⟨_, rfl⟩
            have HSB0 : Hid (Txt.SameB [O] y0 y0) := Lib.hid (by rw [hy0]; exact same_start hBl)
            clear hBl h0 s1 hzt1 hzt2
            rw [← hy0]
            have hd : Below wr.heap.size wr y0 := by rw [hy0]; exact (Below.refl _ _).drew
            have HB0 := Lib.hid (HB.out.trans (hd.mono HB.out.size))
            have HO0 := Lib.hid ((hd.block O (Array.getElem?_eq_some_iff.1 HO2.out).1).trans HO2.out)
            have HH0 := Lib.hid (own_below HH.out hd (Nat.le_refl _))
            have s1 := box_at ((HB0.out.block S hSw1).trans HS1.out) (j := 1) rfl
            have e1 := box_at HO0.out (j := 1) rfl
            obtain ⟨q', off', cp', he', hq', h0⟩ := Ints.elem (Raw.below H1.out HB0.out) hlt
            cases he'
            rw [HZ.out] at h0
            clear hy0 hd HO2 HH HB HS2
            (try simp only [Txt.pick, List.getElem?_cons_succ, List.getElem?_cons_zero])
            go_wp2
            refine Txt.RunPost.mk ?_
            clear s1 e1 h0
            refine Txt.Ty.wpTr_alt ?_ Txt.Ty.wpTr_no
            (try simp only [Txt.pick, List.getElem?_cons_succ, List.getElem?_cons_zero])
            go_wp2
            obtain ⟨Y, hY⟩ : ∃ Y, Y = y0.heap.size := ⟨_, rfl⟩
            obtain ⟨y1, hy⟩ : ∃ Z, Z = y0.alloc (.cells #[.int .i64 z] 3) := ⟨_, rfl⟩
            rw [← hy, ← hY]
            have hb : Below y0.heap.size y0 y1 := by rw [hy]; exact (Below.refl _ _).alloc (Nat.le_refl _) _
            have hYb : y1.heap[Y]? = some (.cells #[.int .i64 z] 3 (0, 0)) := by rw [hy, hY]; exact heap_alloc_new y0 _
            have HXr := Lib.hid (boxIt Y z hYb)
            have HB1 := Lib.hid (HB0.out.trans (hb.mono HB0.out.size))
            have HO1 := Lib.hid ((hb.block O (Array.getElem?_eq_some_iff.1 HO0.out).1).trans HO0.out)
            have HH1 := Lib.hid (own_below HH0.out hb (Nat.le_refl _))
            have HSB1 := Lib.hid (same_below' HSB0.out hb)
            clear hy hY hb hYb HB0 HO0 HH0 HSB0
            refine Txt.SegPost.mk (Txt.Ty.Shown.same HSB1.out) ?_
            (try simp only [Txt.pick, List.getElem?_cons_succ, List.getElem?_cons_zero])
            go_wp2
            refine Txt.RunPost.mk ?_
            refine Txt.Ty.wpTr_alt ?_ Txt.Ty.wpTr_no
            (try simp only [Txt.pick, List.getElem?_cons_succ, List.getElem?_cons_zero])
            go_wp2_with (at_builtin; refine wpList_appF elN Tryz.underlying22 HH1.out HXr.out (Below.refl w1.heap.size y1) rfl _ _ rfl rfl rfl ?c3 ?cB ?c5 ?_)
            case c3 => omega
            case cB => exact Nat.le_refl _
            case c5 => exact HB1.out.size
            intro v2 y2 hown2 hbel2 hk2 hn2
            obtain ⟨a3, c3, rfl⟩ := own_slice hown2
            have hnO : O ∉ (Value.slice oa n oc).ownBlock.toList := fun hm => by
              obtain ⟨cur, hc⟩ := RowF.type (.inl HH1.out) (r := O) (by simpa using hm)
              rw [HO1.out] at hc; cases hc
            have HO2 := Lib.hid ((hk2.block O (Array.getElem?_eq_some_iff.1 HO1.out).1 hnO).trans HO1.out)
            have HB2 := Lib.hid (HB1.out.trans hbel2)
            have HSB2 := Lib.hid (same_keep HSB1.out hk2 (fun q hq => by rw [List.mem_singleton.1 hq]; exact hnO))
            have HH2 : Hid (y2.ownsRow w1.heap.size 3 1 (.slice a3 (n + 1) c3) (n + 1) ((less (l.take (k + 1)) t).map (Value.int .i64))) := Lib.hid (by rw [HT.out, HZ.out, List.map_append]; exact hown2)
            clear hown2 hbel2 hk2 hn2 hnO HB1 HO1 HH1 HSB1
            go_wp2
            refine Txt.SegPost.mk (Txt.Ty.Shown.same HSB2.out) ?_
            (try simp only [Txt.pick, List.getElem?_cons_succ, List.getElem?_cons_zero])
            go_wp2
            refine Txt.RunPost.mk ?_
            refine Txt.Ty.wpTr_alt ?_ Txt.Ty.wpTr_no
            (try simp only [Txt.pick, List.getElem?_cons_succ, List.getElem?_cons_zero])
            have e1 := box_at HO2.out (j := 1) rfl
            have f1 := box_free HO2.out 1
            go_wp2
            have hk := (Keep.refl [O] y2).setCell (p := ⟨O, 1, none⟩) (by simp) (.slice a3 (n + 1) c3)
            refine Txt.SegPost.mk (Txt.Ty.Shown.last rfl) ?_
            (try simp only [Txt.pick, List.getElem?_cons_succ, List.getElem?_cons_zero])
            go_wp2
            refine Txt.RunPost.mk ?_
            refine Txt.Ty.wpTr_done (by rfl) ⟨.head _, trivial⟩ ?_
            have HK := Lib.hid hk
            clear hk e1 f1
            go_wp2
            go_roundw
            case rel =>
              refine ⟨k + 1, n + 1, _, hlt, by omega, by go_num, heap_put1 HO2.out _, own_keep HH2.out HK.out (fun q hq hm => ?_), HB2.out.trans (HK.out.below HB2.out.size (fun f hf => by rw [List.mem_singleton.1 hf]; exact hOw))⟩
              obtain ⟨cur, hc⟩ := RowF.type (.inl HH2.out) (r := q) hq
              rw [List.mem_singleton] at hm
              rw [hm, HO2.out] at hc; cases hc
            case measure => simp [intOf]; omega
        · obtain rfl : k = l.length := by omega
          have hrx := (hbel.block R hRw1).trans HR1.out
          have r0 := box_at hrx (j := 0) rfl
          have r1 := box_at hrx (j := 1) rfl
          have k0 := box_free hrx 0
          have k1 := box_free hrx 1
          have e0 := box_at HO2.out (j := 0) rfl
          have e1 := box_at HO2.out (j := 1) rfl
          have HRX := Lib.hid hrx
          clear hbel hrx
          go_wp2
          refine bodyPost_ret (results_ct rfl _ _ _ _ _ _ _ rfl (heap_put2 HRX.out _ _) Tryz.underlying24 rfl (by kernel_rfl)) rfl ?_
          unfold RetPg
          rw [if_pos (show t ∈ l ∧ rd = rd from ⟨by simpa using HHM.out, rfl⟩)]
          have hk := keep_set2 wr R (.int .i64 rd) (.slice oa n oc)
          have hbw := Hb1.out.trans (HB.out.mono Hb1.out.size)
          refine ⟨hbw.trans (hk.below hbw.size (fun f hf => by rw [List.mem_singleton.1 hf]; exact hwR)), _, rfl, ?_⟩
          have ho := own_keep HH.out hk (fun q hq hm => by have := (HH.out.lt q hq).1; rw [List.mem_singleton] at hm; omega)
          rw [List.take_length] at ho
          have hn : n = (less l t).length := by have := ho.1; simpa using this.symm
          subst hn
          exact Raw.of_own (own_base ho Hb1.out.size) (ivs_one _) (fun f hf => List.mem_range.1 hf)
  · have hrd1 : (rd != r) = true := by simpa using hrd
    have hrd2 : (rd == r) = false := by simpa using hrd
    have HNO : Hid (¬ (t ∈ l ∧ rd = r)) := Lib.hid (fun h => hrd h.2)
    clear hrd
    go_wp2
    refine bodyPost_ret (results_ct rfl _ _ _ _ _ _ _ rfl (heap_put2 HR1.out _ _) Tryz.underlying24 rfl (by kernel_rfl)) rfl ?_
    unfold RetPg
    rw [if_neg HNO.out]
    exact ⟨HBAD.out _ _, rfl⟩
end Go.Proofs.YthmnhpakgjnngaaGreatDoor
