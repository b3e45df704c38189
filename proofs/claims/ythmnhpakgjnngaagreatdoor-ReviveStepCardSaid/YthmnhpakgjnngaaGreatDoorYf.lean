/- Revive: the reference's components, Ping -/
import Derived.Test.YthmnhpakgjnngaaGreatDoorYe
import Derived.Deep.CutRange
import Derived.WalkMore
namespace Go.Rv
open Go Go.RowKit Go.Bs Go.Cl Go.Rw Go.Dt
theorem comps_take2 : ∀ k : Nat, k < 9 → comps.take (k + 1) = comps.take k ++ [(k : Int) + 2] := by decide
theorem comps_nine : comps.take 9 = comps := by decide
theorem comps_prp : ∀ x ∈ comps, prp x = true := by decide
/-- the components among the first so many numbers -/
def upTo (j : Nat) : List Int := ((List.range j).map (fun i : Nat => (i : Int) + 1)).filter (fun t => decide (t ∈ comps))
theorem upTo_yes {j : Nat} (h : decide ((j : Int) + 1 ∈ comps) = true) : upTo (j + 1) = upTo j ++ [(j : Int) + 1] := by
  unfold upTo
  rw [List.range_succ, List.map_append, List.filter_append]
  congr 1
  simp only [List.map_cons, List.map_nil, List.filter_cons, h, if_true, List.filter_nil]
theorem upTo_no {j : Nat} (h : decide ((j : Int) + 1 ∈ comps) = false) : upTo (j + 1) = upTo j := by
  unfold upTo
  rw [List.range_succ, List.map_append, List.filter_append]
  simp only [List.map_cons, List.map_nil, List.filter_cons, h, List.filter_nil]
  simp
theorem upTo_end : upTo 31 = comps := by decide +kernel
theorem comps_len : comps.length = 9 := rfl
/-- what the reference's Ping returns, of the components -/
def RetPi (r : Int) (l : List Int) (w : World) (e : Ending) (w' : World) : Prop := Below w.heap.size w w' ∧ if r < 1000000000 then ∃ wv sv, e = .returned (.tuple #[.agg #[.int .i64 (r + 1), wv], sv, .int .i64 0]) ∧ Ints (List.range w.heap.size) w' wv comps ∧ Ints (List.range w.heap.size) w' sv l else e = .returned (.tuple #[.agg #[.int .i64 0, .slice none 0 0], .slice none 0 0, .int .i64 6])
end Go.Rv
namespace Go.Proofs.YthmnhpakgjnngaaGreatDoor
open Go.RowKit Go.Bs Go.Cl Go.Rw Go.Dt Go.Rv
set_option maxRecDepth 100000 in
set_option maxHeartbeats 4000000 in
theorem rcomps_any (w : World) : Calls Tryz.prog 79 #[] w fun e w' => ∃ v, e = .returned v ∧ w'.ownsRow w.heap.size 3 1 v comps.length (comps.map (Value.int .i64)) ∧ Below w.heap.size w w' := by
  go_enter Tryz.func79, Tryz.ntmps79
  go_wp2
  go_loopw [1, 2] (fun ov i wr => ∃ k : Nat, k ≤ 9 ∧ i = .int .i64 ((k : Int) + 2) ∧ wr.ownsRow w.heap.size 3 1 ov k ((comps.take k).map (Value.int .i64)) ∧ Below w.heap.size w wr) (fun _ i _ => 11 - (intOf i).toNat)
  case atStart => exact ⟨0, by omega, rfl, World.ownsRow_nil _ _ _ _, Below.refl _ _⟩
  case round =>
    obtain ⟨k, hk, rfl, hrow, hbel⟩ := hrel
    obtain ⟨oa, oc, rfl⟩ := own_slice hrow
    have hsz := hbel.size
    by_cases hlt : k < 9
    · have hk2 : (k : Int) + 2 ≤ 10 := by omega
      have HT := Lib.hid (comps_take2 k hlt)
      obtain ⟨z, hz⟩ : ∃ z, (k : Int) + 2 = z := ⟨_, rfl⟩
      have hal := (Below.refl wr.heap.size wr).alloc (Nat.le_refl _) (.cells #[.int .i64 ((k : Int) + 2)] 3)
      have HR := Lib.hid (own_below hrow hal (Nat.le_refl _))
      have HXr := Lib.hid (boxIt wr.heap.size ((k : Int) + 2) (heap_alloc_new wr (.cells #[.int .i64 ((k : Int) + 2)] 3)))
      have hbel1 := hbel.trans (hal.mono hsz)
      clear hrow hal hbel hz
      go_wp2_with (at_builtin; refine wpList_appF elN Tryz.underlying22 HR.out HXr.out hbel1 rfl _ _ rfl rfl rfl ?c3 ?cB ?c5 ?_)
      case c3 => omega
      case cB => exact Nat.le_refl _
      case c5 => exact hbel1.size
      intro v2 y2 hown2 hbel2 hk2' hn2
      have HH2 : Hid (y2.ownsRow w.heap.size 3 1 v2 (k + 1) ((comps.take (k + 1)).map (Value.int .i64))) := Lib.hid (by rw [HT.out, List.map_append, List.map_take]; exact hown2)
      clear hown2 hk2' hn2
      go_wp2
      go_roundw
      case rel => exact ⟨k + 1, by omega, by go_num, HH2.out, hbel2⟩
      case measure => simp [intOf]; omega
    · have hk9 : k = 9 := by omega
      have hk2 : ¬ (k : Int) + 2 ≤ 10 := by omega
      have HR := Lib.hid hrow
      have HK := Lib.hid hk9
      clear hrow hk9 hlt hk
      go_wp2
      go_ret
      refine ⟨_, rfl, ?_, hbel⟩
      have := HR.out
      rw [HK.out, comps_nine] at this
      rw [comps_len]
      rw [HK.out]
      exact this
set_option maxRecDepth 100000 in
set_option maxHeartbeats 8000000 in
theorem rping_any (r : Int) (v v2 : Value) (l : List Int) (w : World) (hl : l.length ≤ 1000) (h : Ints [] w v l) (hts : Ints [] w v2 comps) (ok : OkB r l) :
    Calls Tryz.prog 78 #[.agg #[.int .i64 r, v], v2] w (RetPi r l w) := by
  obtain ⟨ta, tc, rfl⟩ := Raw.slice hts
  obtain ⟨a, cap, rfl⟩ := Raw.slice h
  obtain ⟨C1, hC1⟩ : ∃ C : Array Value, C = #[.int .i64 r, .slice a l.length cap] := ⟨_, rfl⟩
  have hb : Below w.heap.size w ((w.alloc (.cells C1 24)).alloc (.cells #[.int .i64 0, .slice none 0 0] 24)) := ((Below.refl _ w).alloc (Nat.le_refl _) _).alloc (by simp) _
  obtain ⟨W, hW⟩ : ∃ W, W = (w.alloc (.cells C1 24)).alloc (.cells #[.int .i64 0, .slice none 0 0] 24) := ⟨_, rfl⟩
  have hA : W.heap[w.heap.size]? = some (.cells C1 24 (0, 0)) := by rw [hW]; exact (Below.heap_alloc (w.alloc (.cells C1 24)) _ _ (by simp)).trans (heap_alloc_new w _)
  have hB : W.heap[w.heap.size + 1]? = some (.cells #[.int .i64 0, .slice none 0 0] 24 (0, 0)) := by
    rw [hW]
    have := heap_alloc_new (w.alloc (.cells C1 24)) (.cells #[.int .i64 0, .slice none 0 0] 24)
    simpa using this
  rw [← hW] at hb
  rw [hC1] at hW hA
  obtain ⟨S, hAe⟩ : ∃ A, A = w.heap.size := ⟨_, rfl⟩
  obtain ⟨R, hBe⟩ : ∃ B, B = w.heap.size + 1 := ⟨_, rfl⟩
  rw [← hAe] at hA
  rw [← hBe] at hB
  have hwS : w.heap.size ≤ S := by omega
  have hwR : w.heap.size ≤ R := by omega
  have hSR : S ≠ R := by omega
  have hSW := (Array.getElem?_eq_some_iff.1 hA).1
  have hRW := (Array.getElem?_eq_some_iff.1 hB).1
  have HW := Lib.hid hW; have HAe := Lib.hid hAe; have HBe := Lib.hid hBe
  have HS := Lib.hid hA; have HRx := Lib.hid hB
  have H := Lib.hid (Raw.below h hb)
  have HT := Lib.hid (Raw.below hts hb)
  clear hts
  have Hb := Lib.hid hb
  clear hW hC1 hA hB h hb hAe hBe
  have hc9 : comps.length ≤ 9 := Nat.le_of_eq comps_len
  have hv : okBb r l = true := okBb_iff.2 ok
  have hr1 := ok.r1
  have hr0 := ok.r0
  have HV := Lib.hid hv
  clear hv ok
  have s0 := box_at HS.out (j := 0) rfl
  have s1 := box_at HS.out (j := 1) rfl
  go_enter Tryz.func78, Tryz.ntmps78
  go_upto_region 1 with (fail)
  rw [← HW.out, ← HBe.out, ← HAe.out]
  clear HW HAe HBe
  go_wp2_with fail
  refine (rvalidB_any r _ l W (by omega) H.out).mono ?_
  rw [HV.out]
  rintro e w1 ⟨rfl, hb1⟩
  have HS1 := Lib.hid ((hb1.block S hSW).trans HS.out)
  have HR1 := Lib.hid ((hb1.block R hRW).trans HRx.out)
  have H1 := Lib.hid (Raw.below H.out hb1)
  have HT1 := Lib.hid (Raw.below HT.out hb1)
  have Hb1 := Lib.hid (Hb.out.trans (hb1.mono Hb.out.size))
  have hz1 := hb1.size
  have hSw1 : S < w1.heap.size := by omega
  have hRw1 : R < w1.heap.size := by omega
  clear hb1 s0 s1 HS HRx H HT Hb hz1
  go_wp2
  go_loopw [7] (fun i wr => ∃ k : Nat, k ≤ comps.length ∧ i = .int .i64 k ∧ w1 = wr) (fun i _ => comps.length - (intOf i).toNat)
  case atStart => exact ⟨0, Nat.zero_le _, rfl, rfl⟩
  case round =>
    obtain ⟨k, hk, rfl, hw⟩ := hrel
    subst hw
    by_cases hlt : k < comps.length
    · obtain ⟨q, off, cp, he, hq, h0⟩ := Ints.elem HT1.out hlt
      cases he
      have hp := comps_prp _ (List.getElem_mem hlt)
      obtain ⟨z, hz⟩ : ∃ z, comps[k] = z := ⟨_, rfl⟩
      rw [hz] at h0 hp
      have HP := Lib.hid hp
      clear hz hp
      go_wp2_with fail
      refine (rproper_eq z true _ HP.out).mono ?_
      rintro e w' ⟨rfl, rfl⟩
      go_wp2
      go_roundw
      case rel => exact ⟨k + 1, hlt, by go_num, by first | trivial | rfl⟩
      case measure => simp [intOf]; omega
    · obtain rfl : k = comps.length := by omega
      have s0 := box_at HS1.out (j := 0) rfl
      have s1 := box_at HS1.out (j := 1) rfl
      have r0 := box_at HR1.out (j := 0) rfl
      have r1 := box_at HR1.out (j := 1) rfl
      have k0 := box_free HR1.out 0
      have k1 := box_free HR1.out 1
      by_cases hrm : r = 1000000000
      · have hrm1 : (r == 1000000000) = true := by simpa using hrm
        have HNO : Hid (¬ r < 1000000000) := Lib.hid (by omega)
        clear hrm hr1 hr0
        go_wp2
        refine bodyPost_ret (results_ctt rfl _ _ _ _ _ _ _ rfl (heap_put2 HR1.out _ _) Tryz.underlying24 rfl (by kernel_rfl)) rfl ?_
        unfold RetPi
        rw [if_neg (by have := HNO.out; omega)]
        exact ⟨Hb1.out.trans ((keep_set2 w1 R _ _).below Hb1.out.size (fun f hf => by rw [List.mem_singleton.1 hf]; exact hwR)), rfl⟩
      · have hrm1 : (r == 1000000000) = false := by simpa using hrm
        have HY : Hid (r < 1000000000) := Lib.hid (by omega)
        obtain ⟨O, hO⟩ : ∃ O, O = w1.heap.size := ⟨_, rfl⟩
        obtain ⟨w2, hw2⟩ : ∃ W, W = w1.alloc (.cells #[.int .i64 (r + 1), .slice none 0 0] 24) := ⟨_, rfl⟩
        have hb2 : Below w1.heap.size w1 w2 := by rw [hw2]; exact (Below.refl _ _).alloc (Nat.le_refl _) _
        have hx2 : w2.heap[O]? = some (.cells #[.int .i64 (r + 1), .slice none 0 0] 24 (0, 0)) := by rw [hw2, hO]; exact heap_alloc_new w1 _
        have HO2 := Lib.hid hx2
        have Hb2 := Lib.hid hb2
        have hOw : w1.heap.size ≤ O := by omega
        have HO := Lib.hid hO; have Hw2 := Lib.hid hw2
        clear hb2 hx2 hO hw2 r0 r1 k0 k1 hrm s1
        go_upto_region 11 with (fail)
        rw [← Hw2.out, ← HO.out]
        clear Hw2 s0 hrm1 hr1 hr0
        go_wp2
        go_loopw [9] (fun i wr => ∃ (j n : Nat) (ov : Value), j ≤ 31 ∧ n ≤ j ∧ i = .int .i64 ((j : Int) + 1) ∧ wr.heap[O]? = some (.cells #[.int .i64 (r + 1), ov] 24 (0, 0)) ∧ wr.ownsRow w1.heap.size 3 1 ov n ((upTo j).map (Value.int .i64)) ∧ Below w1.heap.size w1 wr) (fun i _ => 32 - (intOf i).toNat)
        case atStart => exact ⟨0, 0, _, by omega, Nat.le_refl _, rfl, HO2.out, World.ownsRow_nil _ _ _ _, Hb2.out⟩
        case round =>
          clear HO2 Hb2
          obtain ⟨j, n, ov, hj, hn, rfl, hO, hrow, hbel⟩ := hrel
          obtain ⟨oa, oc, rfl⟩ := own_slice hrow
          have HO2 := Lib.hid hO; have HH := Lib.hid hrow; have HB := Lib.hid hbel
          clear hO hrow
          by_cases hlt : j < 31
          · have hj32 : (j : Int) + 1 < 32 := by omega
            obtain ⟨B, hB⟩ : ∃ B, decide ((j : Int) + 1 ∈ comps) = B := ⟨_, rfl⟩
            have HBB := Lib.hid hB
            clear hB hbel
            go_wp2_with fail
            refine (rhas_eq _ comps ((j : Int) + 1) B wr (by rw [comps_len]; omega) (Raw.below HT1.out HB.out) HBB.out).mono ?_
            rintro e w' ⟨rfl, rfl⟩
            cases B
            · have HU := Lib.hid (upTo_no HBB.out)
              go_wp2
              go_roundw
              case rel => exact ⟨j + 1, n, _, by omega, by omega, by go_num, HO2.out, by rw [HU.out]; exact HH.out, HB.out⟩
              case measure => simp [intOf]; omega
            · have HU := Lib.hid (upTo_yes HBB.out)
              have e1 := box_at HO2.out (j := 1) rfl
              have hal := (Below.refl wr.heap.size wr).alloc (Nat.le_refl _) (.cells #[.int .i64 ((j : Int) + 1)] 3)
              have HH1 := Lib.hid (own_below HH.out hal (Nat.le_refl _))
              have HXr := Lib.hid (boxIt wr.heap.size ((j : Int) + 1) (heap_alloc_new wr (.cells #[.int .i64 ((j : Int) + 1)] 3)))
              have hbel1 := HB.out.trans (hal.mono HB.out.size)
              have HO1 := Lib.hid ((hal.block O (Array.getElem?_eq_some_iff.1 HO2.out).1).trans HO2.out)
              clear hal HH HO2 HB
              go_wp2_with (at_builtin; refine wpList_appF elN Tryz.underlying22 HH1.out HXr.out hbel1 rfl _ _ rfl rfl rfl ?c3 ?cB ?c5 ?_)
              case c3 => omega
              case cB => exact Nat.le_refl _
              case c5 => exact hbel1.size
              intro v2 y2 hown2 hbel2 hk2 hn2
              obtain ⟨a3, c3, rfl⟩ := own_slice hown2
              have hnO : O ∉ (Value.slice oa n oc).ownBlock.toList := fun hm => by
                obtain ⟨cur, hc⟩ := RowF.type (.inl HH1.out) (r := O) (by simpa using hm)
                rw [HO1.out] at hc; cases hc
              have hO2 := (hk2.block O (Array.getElem?_eq_some_iff.1 HO1.out).1 hnO).trans HO1.out
              have HH2 : Hid (y2.ownsRow w1.heap.size 3 1 (.slice a3 (n + 1) c3) (n + 1) ((upTo (j + 1)).map (Value.int .i64))) := Lib.hid (by rw [HU.out, List.map_append]; exact hown2)
              have HO2 := Lib.hid hO2
              have e1 := box_at hO2 (j := 1) rfl
              have f1 := box_free hO2 1
              clear hown2 hk2 hn2 hnO HO1 HH1 hbel1 hO2 HXr
              go_wp2
              go_roundw
              case rel =>
                have hk := (Keep.refl [O] y2).setCell (p := ⟨O, 1, none⟩) (by simp) (.slice a3 (n + 1) c3)
                refine ⟨j + 1, n + 1, _, by omega, by omega, by go_num, heap_put1 HO2.out _, own_keep HH2.out hk (fun q hq hm => ?_), hbel2.trans (hk.below hbel2.size (fun f hf => by rw [List.mem_singleton.1 hf]; exact hOw))⟩
                obtain ⟨cur, hc⟩ := RowF.type (.inl HH2.out) (r := q) hq
                rw [List.mem_singleton] at hm
                rw [hm, HO2.out] at hc; cases hc
              case measure => simp [intOf]; omega
          · have hj31 : j = 31 := by omega
            have hj32 : ¬ (j : Int) + 1 < 32 := by omega
            have HJ := Lib.hid hj31
            clear hj31 hlt hj
            go_upto_region 16 with (fail)
            have hBl : ∀ q ∈ [O, S], ∃ cc e f, wr.heap[q]? = some (.cells cc e f) := fun q hq => by
              simp only [List.mem_cons, List.not_mem_nil, or_false] at hq
              rcases hq with rfl | rfl
              · exact ⟨_, _, _, HO2.out⟩
              · exact ⟨_, _, _, (hbel.block _ hSw1).trans HS1.out⟩
            refine Txt.Ty.wp_tree [O, S] [0, 3] [5] [0, 3] [0, 2, 3] (.alt [1] (.alt [4] (.alt [5, 6, 7] (.done) (.no)) (.no)) (.no)) (by kernel_rfl) (by kernel_rfl) (by kernel_rfl) (by kernel_rfl) hBl ?_
            obtain ⟨y0, hy0⟩ : ∃ y, y = wr.drew := ⟨_, rfl⟩
            have HSB0 : Hid (Txt.SameB [O, S] y0 y0) := Lib.hid (by rw [hy0]; exact same_start hBl)
            clear hBl
            rw [← hy0]
            have hd : Below wr.heap.size wr y0 := by rw [hy0]; exact (Below.refl _ _).drew
            have HB0 := Lib.hid (HB.out.trans (hd.mono HB.out.size))
            have HO0 := Lib.hid ((hd.block O (Array.getElem?_eq_some_iff.1 HO2.out).1).trans HO2.out)
            have HH0 := Lib.hid (own_below HH.out hd (Nat.le_refl _))
            have s1 := box_at ((HB0.out.block S hSw1).trans HS1.out) (j := 1) rfl
            have e0 := box_at HO0.out (j := 0) rfl
            have e1 := box_at HO0.out (j := 1) rfl
            clear hy0 hd HO2 HH HB hbel
            (try simp only [Txt.pick, List.getElem?_cons_succ, List.getElem?_cons_zero])
            go_wp2
            refine Txt.RunPost.mk ?_
            clear s1 e0 e1
            refine Txt.Ty.wpTr_alt ?_ Txt.Ty.wpTr_no
            (try simp only [Txt.pick, List.getElem?_cons_succ, List.getElem?_cons_zero])
            go_wp2
            obtain ⟨E, hE⟩ : ∃ E, E = y0.heap.size := ⟨_, rfl⟩
            obtain ⟨y1, hy⟩ : ∃ Z, Z = y0.alloc (.cells #[] 3) := ⟨_, rfl⟩
            rw [← hy, ← hE]
            have hb : Below y0.heap.size y0 y1 := by rw [hy]; exact (Below.refl _ _).alloc (Nat.le_refl _) _
            have HE1 : Hid (y1.ownsRow y0.heap.size 3 1 (.slice (some ⟨E, 0, none⟩) 0 0) 0 []) := Lib.hid (by rw [hy, hE]; exact own_empty y0 y0.heap.size 3 1 (Nat.le_refl _))
            have HB1 := Lib.hid (HB0.out.trans (hb.mono HB0.out.size))
            have HO1 := Lib.hid ((hb.block O (Array.getElem?_eq_some_iff.1 HO0.out).1).trans HO0.out)
            have HH1 := Lib.hid (own_below HH0.out hb (Nat.le_refl _))
            have HSB1 := Lib.hid (same_below' HSB0.out hb)
            have hz1 := hb.size
            have Hby := Lib.hid hb
            clear hy hE hb HB0 HSB0
            refine Txt.SegPost.mk (Txt.Ty.Shown.same HSB1.out) ?_
            (try simp only [Txt.pick, List.getElem?_cons_succ, List.getElem?_cons_zero])
            go_wp2
            refine Txt.RunPost.mk ?_
            refine Txt.Ty.wpTr_alt ?_ Txt.Ty.wpTr_no
            (try simp only [Txt.pick, List.getElem?_cons_succ, List.getElem?_cons_zero])
            go_wp2_with (at_builtin; refine wpList_appF elN Tryz.underlying22 HE1.out (Raw.below H1.out HB1.out) Hby.out rfl _ _ rfl rfl rfl ?c3 ?cB ?c5 ?_)
            case c3 => omega
            case cB => exact Nat.le_refl _
            case c5 => exact hz1
            intro v3 y2 hown3 hbel3 hk3 hn3
            have hrow3 : y2.ownsRow y0.heap.size 3 1 v3 l.length (l.map (Value.int .i64)) := by simpa using hown3
            obtain ⟨a3, c3, rfl⟩ := own_slice hrow3
            have hE0 : ∀ f ∈ (Value.slice (some ⟨E, 0, none⟩) 0 0).ownBlock.toList, y0.heap.size ≤ f := fun f hf => (HE1.out.lt f (by simpa using hf)).1
            have hOl := (Array.getElem?_eq_some_iff.1 HO0.out).1
            have HL := Lib.hid hrow3
            have HB2 := Lib.hid (HB1.out.trans (hk3.below (B := w1.heap.size) HB1.out.size (fun f hf => by have := hE0 f hf; have := HB1.out.size; have := (Array.getElem?_eq_some_iff.1 HO0.out).1; omega)))
            have HSB2 := Lib.hid (same_keep HSB1.out hk3 (fun q hq hm => by
              have := hE0 q hm
              simp only [List.mem_cons, List.not_mem_nil, or_false] at hq
              rcases hq with rfl | rfl
              · omega
              · have := (Array.getElem?_eq_some_iff.1 HO0.out).1; omega))
            have HH2 := Lib.hid (own_keep HH1.out hk3 (fun q hq hm => by have := hE0 q hm; have := (HH0.out.lt q hq).2; omega))
            have hR2 := (HB2.out.block R hRw1).trans HR1.out
            have HR2 := Lib.hid hR2
            clear hown3 hbel3 hk3 hn3 hrow3 hE0 HB1 HO1 HH1 HSB1 HE1 hR2
            go_wp2
            refine Txt.SegPost.mk (Txt.Ty.Shown.same HSB2.out) ?_
            (try simp only [Txt.pick, List.getElem?_cons_succ, List.getElem?_cons_zero])
            go_wp2
            refine Txt.RunPost.mk ?_
            refine Txt.Ty.wpTr_alt ?_ Txt.Ty.wpTr_no
            (try simp only [Txt.pick, List.getElem?_cons_succ, List.getElem?_cons_zero])
            have r0 := box_at HR2.out (j := 0) rfl
            have r1 := box_at HR2.out (j := 1) rfl
            have k0 := box_free HR2.out 0
            have k1 := box_free HR2.out 1
            go_wp2
            refine Txt.SegPost.mk (Txt.Ty.Shown.last rfl) ?_
            (try simp only [Txt.pick, List.getElem?_cons_succ, List.getElem?_cons_zero])
            go_wp2
            refine Txt.RunPost.mk ?_
            refine Txt.Ty.wpTr_done (by rfl) ⟨.head _, .tail _ (.head _), trivial⟩ ?_
            go_wp2
            refine bodyPost_ret (results_ctt rfl _ _ _ _ _ _ _ rfl (heap_put2 HR2.out _ _) Tryz.underlying24 rfl (by kernel_rfl)) rfl ?_
            unfold RetPi
            rw [if_pos (by have := HY.out; omega)]
            have hk := keep_set2 y2 R (.int .i64 (r + 1)) (.slice oa n oc)
            have hbw := Hb1.out.trans (HB2.out.mono Hb1.out.size)
            refine ⟨hbw.trans (hk.below hbw.size (fun f hf => by rw [List.mem_singleton.1 hf]; exact hwR)), _, _, rfl, ?_, ?_⟩
            · have ho := own_keep HH2.out hk (fun q hq hm => by have := (HH2.out.lt q hq).1; rw [List.mem_singleton] at hm; omega)
              rw [HJ.out, upTo_end] at ho
              have hn : n = comps.length := by have := ho.1; simpa using this.symm
              subst hn
              exact Raw.of_own (own_base ho Hb1.out.size) (ivs_one _) (fun f hf => List.mem_range.1 hf)
            · exact Raw.of_own (own_base (own_keep HL.out hk (fun q hq hm => by have := (HL.out.lt q hq).1; rw [List.mem_singleton] at hm; omega)) (by have := Hb1.out.size; omega)) (ivs_one _) (fun f hf => List.mem_range.1 hf)
end Go.Proofs.YthmnhpakgjnngaaGreatDoor
