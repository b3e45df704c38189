/- Revive: alarm -/
import Derived.Test.YthmnhpakgjnngaaGreatDoorVh
namespace Go.Rv
open Go Go.RowKit Go.Bs Go.Cl Go.Rw Go.Dt
theorem comps_take : ∀ {k : Nat}, k < 9 → comps.take (k + 1) = comps.take k ++ [2 + (k : Int)] := by
  intro k hk
  have : ∀ k, k < 9 → comps.take (k + 1) = comps.take k ++ [2 + (k : Int)] := by decide
  exact this k hk
theorem fold_take {l : List Int} {k : Nat} (hk : k < l.length) (h : List Hs) : (l.take (k + 1)).foldl (fun h t => failH h t 7) h = failH ((l.take k).foldl (fun h t => failH h t 7) h) l[k] 7 := by
  rw [List.take_add_one, List.getElem?_eq_getElem hk, List.foldl_append]; rfl
theorem map_take {α : Type} {l : List Int} {k : Nat} (hk : k < l.length) (f : Int → α) : (l.take (k + 1)).map f = (l.take k).map f ++ [f l[k]] := by
  rw [List.take_add_one, List.getElem?_eq_getElem hk, List.map_append]; rfl
theorem ints_block {W : World} {g : Nat} {l : List Int} (h : W.heap[g]? = some (.cells (l.map (Value.int .i64)).toArray 3 (0, 0))) (hl : l.length ≤ 1000) : Ints [] W (.slice (some ⟨g, 0, none⟩) l.length l.length) l :=
  Raw.of_block h (by simp) (ivs_one l) (by simp) (Nat.le_refl _) (by unfold maxLen; omega)
end Go.Rv
namespace Go.Proofs.YthmnhpakgjnngaaGreatDoor
open Go.RowKit Go.Bs Go.Cl Go.Rw Go.Dt Go.Rv
set_option maxRecDepth 100000 in
set_option maxHeartbeats 4000000 in
theorem alarm_any (base s : Nat) (wv hv : Value) (x : Sv) (m : Ms) (da : Option Addr) (dn dc : Nat) (w : World) (hok : VOk x) (h : Stt w base s wv hv x) :
    Calls Tryz.prog 42 #[.pointer (some ⟨s, 0, none⟩), .agg (msgC m (.slice da dn dc))] w (RetM (if m.a0 = 1 then some (alarmV x) else none) base s w) := by
  obtain ⟨ms, md, mk, mq, m0, m1, m2, m3⟩ := m
  obtain ⟨W, hW⟩ : ∃ W, W = w.alloc (.cells (msgC ⟨ms, md, mk, mq, m0, m1, m2, m3⟩ (.slice da dn dc)) 31) := ⟨_, rfl⟩
  have hb : Below w.heap.size w W := by rw [hW]; exact (Below.refl w.heap.size w).alloc (Nat.le_refl _) _
  have hx : W.heap[w.heap.size]? = some (.cells #[.int .i64 ms, .int .i64 md, .int .i64 mk, .int .i64 mq, .int .i64 m0, .int .i64 m1, .int .i64 m2, .int .i64 m3, .slice da dn dc] 31 (0, 0)) := by rw [hW]; exact heap_alloc_new w _
  have hlo := h.st.lo
  have hsl := h.st.lt
  have hbw : base ≤ w.heap.size := by omega
  have hws := hb.size
  obtain ⟨wa, wc, rfl⟩ := own_slice h.wt
  have HS := Lib.hid (h.below hb)
  have HB := Lib.hid (hb.mono hbw)
  have HKS : Hid (KS s w W) := Lib.hid (KS.of_below hb)
  have c4 := box_at hx (j := 4) rfl
  have HW := Lib.hid hW
  have HOK := Lib.hid hok
  have hlen := hok.len
  clear hb hx hW h hok
  unfold msgC at HW
  unfold msgC
  dsimp only at HW ⊢
  by_cases h1 : m0 = 1
  rotate_left
  · rw [if_neg h1]
    have h1' : (m0 != 1) = true := by simpa using h1
    clear h1
    go_enter Tryz.func42, Tryz.ntmps42
    go_upto_region 1 with (fail)
    rw [← HW.out]
    go_wp2
    go_ret2
    exact ⟨HB.out, HKS.out, rfl⟩
  subst h1
  rw [if_pos rfl]
  go_enter Tryz.func42, Tryz.ntmps42
  go_upto_region 1 with (fail)
  rw [← HW.out]
  go_upto_region 4 with (fail)
  obtain ⟨w2, hw2⟩ : ∃ X, X = W.alloc (.cells #[.slice none 0 0] 34) := ⟨_, rfl⟩
  rw [← hw2]
  obtain ⟨L, hLe⟩ : ∃ L, L = W.heap.size := ⟨_, rfl⟩
  rw [← hLe]
  have hb2 : Below W.heap.size W w2 := by rw [hw2]; exact (Below.refl _ _).alloc (Nat.le_refl _) _
  have hL2 : w2.heap[L]? = some (.cells #[.slice none 0 0] 34 (0, 0)) := by rw [hw2, hLe]; exact heap_alloc_new W _
  have HSL := HS.out.st.lt
  have HA2 : Hid (Al w2 base s L (.slice wa x.wt.length wc) hv (.slice none 0 0) x [] [] []) := Lib.hid ⟨HS.out.below hb2, hL2, World.ownsRow_nil _ _ _ _, by omega, by omega, fun p hp => (by cases hp), fun b hb => (by cases hb)⟩
  have HB2 := Lib.hid (HB.out.trans (hb2.mono (by omega)))
  have HKS2 := Lib.hid (HKS.out.trans (KS.of_below hb2))
  have hb2s := HB2.out.size
  clear hw2 hLe hb2 hL2 HSL HW HS HB c4
  go_wp2
  go_loopw [8, 9] (fun tv i wr => ∃ k : Nat, k ≤ 9 ∧ i = .int .i64 (2 + k) ∧ wr.ownsRow w2.heap.size 3 1 tv k ((comps.take k).map (Value.int .i64)) ∧ Below w2.heap.size w2 wr) (fun _ i _ => 11 - (intOf i).toNat)
  case atStart => exact ⟨0, Nat.zero_le _, rfl, World.ownsRow_nil _ _ _ _, Below.refl _ _⟩
  case round =>
    obtain ⟨k, hk, rfl, hown, hbel⟩ := hrel
    obtain ⟨ta, tc, rfl⟩ := own_slice hown
    have HO := Lib.hid hown
    have hsz := hbel.size
    by_cases hlt : k < 9
    · have hlt' : (2 : Int) + k ≤ 10 := by omega
      have hbel1 := hbel.alloc hsz (.cells #[.int .i64 (2 + (k : Int))] 3)
      have Hx := Lib.hid (ints_block (W := wr.alloc (.cells #[.int .i64 (2 + (k : Int))] 3)) (g := wr.heap.size) (l := [2 + (k : Int)]) (heap_alloc_new wr _) (by simp))
      have HT := Lib.hid (comps_take hlt)
      clear hown hbel
      go_wp2_with (at_builtin; refine wpList_app el24 Tryz.underlying22 (HO.out.alloc _) Hx.out hbel1 rfl _ _ rfl rfl rfl ?c3 (Nat.le_refl _) ?c5 ?_)
      case c3 => simp; omega
      case c5 => first | omega | (simp; omega)
      intro v2 w3 hown2 hb2 hg2 hs2
      obtain ⟨a2, c2, rfl⟩ := own_slice hown2
      have HO2 : Hid (w3.ownsRow w2.heap.size 3 1 (.slice a2 (k + 1) c2) (k + 1) ((comps.take (k + 1)).map (Value.int .i64))) := Lib.hid (by rw [HT.out]; simpa using hown2)
      have HB2 := Lib.hid hb2
      clear hown2 hb2 hg2
      go_wp2
      go_roundw
      case rel => exact ⟨k + 1, by omega, by go_num, HO2.out, HB2.out⟩
      case measure => simp [intOf]; omega
    · obtain rfl : k = 9 := by omega
      have HA3 := Lib.hid (HA2.out.below hbel)
      have HB3 := Lib.hid (HB2.out.trans (hbel.mono (by omega)))
      have HKS3 := Lib.hid (HKS2.out.trans (KS.of_below (show Below w2.heap.size w2 wr from hbel)))
      have HT3 := Lib.hid (own_base hown (show base ≤ w2.heap.size by omega))
      clear hown hbel HO HA2 HB2
      have s0 := box_at HA3.out.st.st.box (j := 0) rfl
      have s1 := box_at HA3.out.st.st.box (j := 1) rfl
      go_wp2_with fail
      by_cases hr : x.r < 1000000000
      · refine (ping_ok x.r x.wt comps _ _ wr (by omega) (by decide) (Ints.of_own HA3.out.st.wt) (Ints.of_own (l := comps) HT3.out) HOK.out.b hr (show ∀ z ∈ comps, 1 ≤ z ∧ z < 32 by decide)).mono ?_
        rintro e w4 ⟨av, bv, rfl, ha, hbv, hb4⟩
        rw [once_comps] at ha
        obtain ⟨aa, ac, rfl⟩ := own_slice ha
        obtain ⟨ba, bc, rfl⟩ := own_slice hbv
        have hwb : base ≤ wr.heap.size := by have := HB3.out.size; omega
        have HA4 : Hid (Al w4 base s L (.slice wa x.wt.length wc) hv (.slice none 0 0) x [] [(.slice ta 9 tc, comps), (.slice ba x.wt.length bc, x.wt), (.slice aa comps.length ac, comps)] []) := Lib.hid ⟨(HA3.out.below hb4).st, (HA3.out.below hb4).lb, (HA3.out.below hb4).lr, HA3.out.ne, HA3.out.lo, fun p hp => by
          simp only [List.mem_cons, List.not_mem_nil, or_false] at hp
          rcases hp with rfl | rfl | rfl
          · exact own_below HT3.out hb4 (Nat.le_refl _)
          · exact own_base hbv hwb
          · exact own_base ha hwb, fun b hb => (by cases hb)⟩
        have HB4 := Lib.hid (HB3.out.trans (hb4.mono hwb))
        have HKS4 := Lib.hid (HKS3.out.trans (KS.of_below hb4))
        have hr0 := HOK.out.b.r0
        clear ha hbv hb4 HA3 HT3 HB3 s0 s1
        go_upto_region 11 with (fail)
        obtain ⟨w5, hw5⟩ : ∃ X, X = w4.alloc (.cells #[.int .i64 (x.r + 1), .slice aa comps.length ac] 38) := ⟨_, rfl⟩
        rw [← hw5]
        obtain ⟨N, hNe⟩ : ∃ N, N = w4.heap.size := ⟨_, rfl⟩
        rw [← hNe]
        have hb5 : Below w4.heap.size w4 w5 := by rw [hw5]; exact (Below.refl _ _).alloc (Nat.le_refl _) _
        have hN5 : w5.heap[N]? = some (.cells #[.int .i64 (x.r + 1), .slice aa comps.length ac] 38 (0, 0)) := by rw [hw5, hNe]; exact heap_alloc_new w4 _
        have hs4 := HB4.out.size
        have HA5 : Hid (Al w5 base s L (.slice wa x.wt.length wc) hv (.slice none 0 0) x [] [(.slice ta 9 tc, comps), (.slice ba x.wt.length bc, x.wt), (.slice aa comps.length ac, comps)] [(N, #[.int .i64 (x.r + 1), .slice aa comps.length ac])]) := Lib.hid ⟨(HA4.out.below hb5).st, (HA4.out.below hb5).lb, (HA4.out.below hb5).lr, HA4.out.ne, HA4.out.lo, (HA4.out.below hb5).rw', fun b hb => by
          rw [List.mem_singleton] at hb; subst hb; exact hN5⟩
        have HB5 := Lib.hid (HB4.out.trans (hb5.mono (by omega)))
        have HKS5 := Lib.hid (HKS4.out.trans (KS.of_below hb5))
        clear hw5 hNe hb5 hN5 HA4 HB4
        go_wp2
        go_loopw [44] (fun i wy => ∃ k : Nat, k ≤ x.wt.length ∧ i = .int .i64 k ∧ ∃ hv' lv', Al wy base s L (.slice wa x.wt.length wc) hv' lv' { x with hs := (x.wt.take k).foldl (fun h t => failH h t 7) x.hs } ((x.wt.take k).map fun t => rstE t 1) [(.slice ta 9 tc, comps), (.slice ba x.wt.length bc, x.wt), (.slice aa comps.length ac, comps)] [(N, #[.int .i64 (x.r + 1), .slice aa comps.length ac])] ∧ Below base w wy ∧ KS s w wy) (fun i _ => x.wt.length - (intOf i).toNat)
        case atStart => exact ⟨0, Nat.zero_le _, rfl, hv, _, HA5.out, HB5.out, HKS5.out⟩
        case round =>
          clear HA5 HB5
          obtain ⟨k, hk, rfl, hv6, lv6, hal, hbl, hks⟩ := hrel
          have HA6 := Lib.hid hal; have HB6 := Lib.hid hbl; have HKS6 := Lib.hid hks
          clear hal hbl hks
          by_cases hlt : k < x.wt.length
          · obtain ⟨b, off, c', e', hb, h0⟩ := Ints.elem (Ints.of_own (HA6.out.rw' (.slice ba x.wt.length bc, x.wt) (by simp))) hlt
            cases e'
            have ht := HOK.out.w _ (List.getElem_mem hlt)
            have hft := fold_take hlt x.hs
            have hmt := map_take hlt fun t => rstE t 1
            obtain ⟨t, hte⟩ : ∃ t, t = x.wt[k] := ⟨_, rfl⟩
            rw [← hte] at h0 ht hft hmt
            have HFT := Lib.hid hft; have HMT := Lib.hid hmt
            have hlk : ((x.wt.take k).map fun t => rstE t 1).length ≤ 9 := by simp; omega
            have HV := Lib.hid (fold_valid (x.wt.take k) x.hs HOK.out.h (fun z hz => HOK.out.w z (List.mem_of_mem_take hz)))
            clear hft hmt hte
            go_wp2_with fail
            refine (fail_any base s x.r _ hv6 _ t 7 _ HV.out ht.1 ht.2 HA6.out.st.st).mono ?_
            rintro e w7 ⟨hv7, rfl, hst, hB, hK⟩
            have HA7 := Lib.hid (HA6.out.fail hst hK)
            have HB7 := Lib.hid (HB6.out.trans hB)
            have HKS7 := Lib.hid (HKS6.out.trans hK.ks)
            clear hst hB hK HA6 HB6
            go_wp2_with fail
            refine (restart_any t 1 _).mono ?_
            rintro e w8 ⟨rfl, hb8⟩
            have HA8 := Lib.hid (HA7.out.below hb8)
            have HB8 := Lib.hid (HB7.out.trans (hb8.mono (by have := HB7.out.size; omega)))
            have HKS8 := Lib.hid (HKS7.out.trans (KS.of_below hb8))
            clear hb8 HA7 HB7
            obtain ⟨z8, hz8⟩ : ∃ X, X = w8.alloc (.cells #[.int .i64 16, .int .i64 t, .int .i64 1, .int .i64 0, .int .i64 0, .int .i64 0, .int .i64 0, .int .i64 0, .int .i64 0, .int .i64 0, .int .i64 0, .int .i64 0, .int .i64 0, .slice none 0 0, .slice none 0 0] 58) := ⟨_, rfl⟩
            have hbz : Below w8.heap.size w8 z8 := by rw [hz8]; exact (Below.refl _ _).alloc (Nat.le_refl _) _
            have hxz : z8.heap[w8.heap.size]? = some (.cells (encE (rstE t 1)).toArray 58 (0, 0)) := by rw [hz8]; exact heap_alloc_new w8 _
            have HZ := Lib.hid hz8
            have HAz8 := Lib.hid (HA8.out.below hbz)
            have HXz := Lib.hid (effs_block hxz)
            have HBz8 := Lib.hid (HB8.out.trans (hbz.mono (by have := HB8.out.size; omega)))
            have HKSz := Lib.hid (HKS8.out.trans (KS.of_below hbz))
            clear hbz hxz hz8 HA8 HKS8
            go_wp2_with fail
            rw [← HZ.out]
            refine (add_any L base _ _ ((x.wt.take k).map fun t => rstE t 1) [rstE t 1] z8 HAz8.out.lb HAz8.out.lr HAz8.out.lo HXz.out (by first | (simp; done) | (simp; omega))).mono ?_
            rintro e w9 ⟨lv9, rfl, hl, hr, hb, hk⟩
            have HA9 := Lib.hid (HAz8.out.add hl hr hk)
            have HB9 := Lib.hid (HBz8.out.trans hb)
            have HKS9 := Lib.hid (HKSz.out.trans (hk.ks HAz8.out.lb))
            clear HKSz hl hr hb hk HZ HXz HAz8 HBz8
            go_wp2
            go_roundw
            case rel => exact ⟨k + 1, by omega, by go_num, hv7, lv9, by rw [HFT.out, HMT.out]; exact HA9.out, HB9.out, HKS9.out⟩
            case measure => simp [intOf]; omega
          · obtain rfl : k = x.wt.length := by omega
            obtain ⟨hs9, hhs⟩ : ∃ z, z = x.wt.foldl (fun h t => failH h t 7) x.hs := ⟨_, rfl⟩
            obtain ⟨es9, hes⟩ : ∃ z, z = x.wt.map fun t => rstE t 1 := ⟨_, rfl⟩
            have HA6' := HA6.out
            rw [List.take_length, ← hhs, ← hes] at HA6'
            have hel : es9.length ≤ 9 := by rw [hes]; simp; omega
            have HHS := Lib.hid hhs; have HES := Lib.hid hes
            have hN := HA6'.bx (N, #[.int .i64 (x.r + 1), .slice aa comps.length ac]) (by simp)
            have n0 := box_at hN (j := 0) rfl
            have n1 := box_at hN (j := 1) rfl
            have s0 := box_at HA6'.st.st.box (j := 0) rfl
            have s1 := box_at HA6'.st.st.box (j := 1) rfl
            have f0 := box_free HA6'.st.st.box 0
            have f1 := box_free HA6'.st.st.box 1
            have HA7 := Lib.hid HA6'
            clear HA6' HA6 hhs hes hN
            go_upto_region 19 with (fail)
            obtain ⟨w8, hw8⟩ : ∃ X, X = (wr.setCell ⟨s, 0, none⟩ (.int .i64 (x.r + 1))).setCell ⟨s, 1, none⟩ (.slice aa comps.length ac) := ⟨_, rfl⟩
            rw [← hw8]
            have hk8 : Keep [s] wr w8 := by rw [hw8]; exact keep_set2 _ _ _ _
            have hbx8 : w8.heap[s]? = some (.cells #[.int .i64 (x.r + 1), .slice aa comps.length ac, hv6] 41 (0, 0)) := by
              rw [hw8]; simp only [World.setCell, Array.getElem?_modify]; simp [HA7.out.st.st.box]
            have hown8 : ∀ {e k n : Nat} {v : Value} {xs : List Value}, wr.ownsRow base e k v n xs → e ≠ 41 → w8.ownsRow base e k v n xs := fun ho he => own_keep ho hk8 (fun q hq hm => by
              rw [List.mem_singleton] at hm
              obtain ⟨cur, hc⟩ := own_type ho hq
              rw [hm, HA7.out.st.st.box] at hc; cases hc; exact he rfl)
            have HA8 : Hid (Al w8 base s L (.slice aa comps.length ac) hv6 lv6 ⟨x.r + 1, comps, hs9⟩ es9 [(.slice ta 9 tc, comps), (.slice ba x.wt.length bc, x.wt), (.slice aa comps.length ac, comps)] [(N, #[.int .i64 (x.r + 1), .slice aa comps.length ac])]) := Lib.hid ⟨⟨⟨hbx8, hown8 HA7.out.st.st.row (by decide), HA7.out.st.st.ne, hlo⟩, hown8 (HA7.out.rw' (.slice aa comps.length ac, comps) (by simp)) (by decide)⟩, (hk8.block L (Array.getElem?_eq_some_iff.1 HA7.out.lb).1 (by simp; exact Ne.symm HA7.out.ne)).trans HA7.out.lb, hown8 HA7.out.lr (by decide), HA7.out.ne, HA7.out.lo, fun p hp => hown8 (HA7.out.rw' p hp) (by decide), fun b hb => by
              rw [List.mem_singleton] at hb; subst hb
              have hN := HA7.out.bx (N, #[.int .i64 (x.r + 1), .slice aa comps.length ac]) (by simp)
              exact (hk8.block N (Array.getElem?_eq_some_iff.1 hN).1 (fun hm => by
                rw [List.mem_singleton] at hm
                rw [hm, HA7.out.st.st.box] at hN; simp at hN)).trans hN⟩
            have HB8 := Lib.hid (HB6.out.trans (hk8.below (by have := HB6.out.size; omega) (fun f hf => by rw [List.mem_singleton.1 hf]; exact hlo)))
            have HKS8 := Lib.hid (HKS6.out.put hk8 (.inl rfl))
            clear hw8 hk8 hbx8 hown8 HA7 HB6 n0 n1 s0 s1 f0 f1
            go_wp2
            go_loopw [63] (fun i wz => ∃ k : Nat, k ≤ 9 ∧ i = .int .i64 k ∧ ∃ lv', Al wz base s L (.slice aa comps.length ac) hv6 lv' ⟨x.r + 1, comps, hs9⟩ (es9 ++ (comps.take k).map (pingE (x.r + 1))) [(.slice ta 9 tc, comps), (.slice ba x.wt.length bc, x.wt), (.slice aa comps.length ac, comps)] [(N, #[.int .i64 (x.r + 1), .slice aa comps.length ac])] ∧ Below base w wz ∧ KS s w wz) (fun i _ => 9 - (intOf i).toNat)
            case atStart => exact ⟨0, Nat.zero_le _, rfl, _, by simpa using HA8.out, HB8.out, HKS8.out⟩
            case round =>
              clear HA8 HB8
              obtain ⟨k, hk, rfl, lv8, hal, hbl, hks⟩ := hrel
              obtain ⟨w9, hw9⟩ : ∃ X, X = wr := ⟨_, rfl⟩
              rw [← hw9] at hal hbl hks ⊢
              clear hw9
              have HA9 := Lib.hid hal; have HB9 := Lib.hid hbl; have HKS9 := Lib.hid hks
              clear hal hbl hks
              have hlk : (es9 ++ (comps.take k).map (pingE (x.r + 1))).length ≤ 18 := by simp; omega
              by_cases hlt : k < 9
              · have hlt9 : (k : Int) < 9 := by omega
                obtain ⟨b, off, c', e', hb, h0⟩ := Ints.elem (Ints.of_own (HA9.out.rw' (.slice ta 9 tc, comps) (by simp))) (show k < comps.length from hlt)
                cases e'
                have hmt := map_take (l := comps) (show k < comps.length from hlt) (pingE (x.r + 1))
                obtain ⟨t, hte⟩ : ∃ t, t = comps[k]'(show k < comps.length from hlt) := ⟨_, rfl⟩
                rw [← hte] at h0 hmt
                have HMT := Lib.hid hmt
                have hN := HA9.out.bx (N, #[.int .i64 (x.r + 1), .slice aa comps.length ac]) (by simp)
                have n0 := box_at hN (j := 0) rfl
                have n1 := box_at hN (j := 1) rfl
                clear hmt hte hN
                obtain ⟨z9, hz9⟩ : ∃ X, X = w9.alloc (.cells #[.int .i64 1, .int .i64 0, .int .i64 0, .int .i64 0, .int .i64 0, .int .i64 0, .int .i64 t, .int .i64 6, .int .i64 0, .int .i64 (x.r + 1), .int .i64 0, .int .i64 0, .int .i64 0, .slice none 0 0, .slice none 0 0] 58) := ⟨_, rfl⟩
                have hbz : Below w9.heap.size w9 z9 := by rw [hz9]; exact (Below.refl _ _).alloc (Nat.le_refl _) _
                have hxz : z9.heap[w9.heap.size]? = some (.cells (encE (pingE (x.r + 1) t)).toArray 58 (0, 0)) := by rw [hz9]; exact heap_alloc_new w9 _
                have HZ := Lib.hid hz9
                have HAz9 := Lib.hid (HA9.out.below hbz)
                have HXz := Lib.hid (effs_block hxz)
                have HBz9 := Lib.hid (HB9.out.trans (hbz.mono (by have := HB9.out.size; omega)))
                have HKSz := Lib.hid (HKS9.out.trans (KS.of_below hbz))
                clear hbz hxz hz9 HA9 HKS9
                go_wp2_with fail
                rw [← HZ.out]
                refine (add_any L base _ _ (es9 ++ (comps.take k).map (pingE (x.r + 1))) [pingE (x.r + 1) t] z9 HAz9.out.lb HAz9.out.lr HAz9.out.lo HXz.out (by first | (simp; done) | (simp; omega))).mono ?_
                rintro e w10 ⟨lv10, rfl, hl, hr, hb, hk⟩
                have HA10 := Lib.hid (HAz9.out.add hl hr hk)
                have HB10 := Lib.hid (HBz9.out.trans hb)
                have HKS10 := Lib.hid (HKSz.out.trans (hk.ks HAz9.out.lb))
                clear HKSz hl hr hb hk HZ HXz HAz9 HBz9
                go_wp2
                go_roundw
                case rel => exact ⟨k + 1, by omega, by go_num, lv10, by rw [HMT.out, ← List.append_assoc]; exact HA10.out, HB10.out, HKS10.out⟩
                case measure => simp [intOf]; omega
              · obtain rfl : k = 9 := by omega
                obtain ⟨z9, hz9⟩ : ∃ X, X = w9.alloc (.cells #[.int .i64 4, .int .i64 64, .int .i64 1, .int .i64 0, .int .i64 0, .int .i64 0, .int .i64 0, .int .i64 0, .int .i64 0, .int .i64 0, .int .i64 0, .int .i64 0, .int .i64 0, .slice none 0 0, .slice none 0 0] 58) := ⟨_, rfl⟩
                have hbz : Below w9.heap.size w9 z9 := by rw [hz9]; exact (Below.refl _ _).alloc (Nat.le_refl _) _
                have hxz : z9.heap[w9.heap.size]? = some (.cells (encE (timE)).toArray 58 (0, 0)) := by rw [hz9]; exact heap_alloc_new w9 _
                have HZ := Lib.hid hz9
                have HAz9 := Lib.hid (HA9.out.below hbz)
                have HXz := Lib.hid (effs_block hxz)
                have HBz9 := Lib.hid (HB9.out.trans (hbz.mono (by have := HB9.out.size; omega)))
                have HKSz := Lib.hid (HKS9.out.trans (KS.of_below hbz))
                clear hbz hxz hz9 HA9 HKS9
                go_wp2_with fail
                rw [← HZ.out]
                refine (add_any L base _ _ (es9 ++ (comps.take 9).map (pingE (x.r + 1))) [timE] z9 HAz9.out.lb HAz9.out.lr HAz9.out.lo HXz.out (by first | (simp; done) | (simp; omega))).mono ?_
                rintro e w90 ⟨lv90, rfl, hl, hr, hb, hk⟩
                have HA90 := Lib.hid (HAz9.out.add hl hr hk)
                have HB90 := Lib.hid (HBz9.out.trans hb)
                have HKS90 := Lib.hid (HKSz.out.trans (hk.ks HAz9.out.lb))
                clear HKSz hl hr hb hk HZ HXz HAz9 HBz9
                obtain ⟨lv, hlv⟩ : ∃ v, v = lv90 := ⟨_, rfl⟩
                have HSE : Hid (SlX (List.range base) w90 lv90 ((es9 ++ (comps.take 9).map (pingE (x.r + 1))) ++ [timE])) := Lib.hid (Raw.of_own HA90.out.lr (encE_one _) (fun f hf => List.mem_range.1 hf))
                have HET : Hid (EvT w90 lv90) := Lib.hid (fun q hq => by obtain ⟨cur, hc⟩ := own_type HA90.out.lr hq; exact ⟨_, _, hc⟩)
                obtain ⟨la, lc, hls⟩ := own_slice HA90.out.lr
                obtain ⟨n9, hn9⟩ : ∃ n, n = ((es9 ++ (comps.take 9).map (pingE (x.r + 1))) ++ [timE]).length := ⟨_, rfl⟩
                rw [← hn9] at hls
                clear hn9 hlv lv
                subst hls
                have d0 := box_at HA90.out.lb (j := 0) rfl
                go_wp2
                go_ret2
                refine ⟨HB90.out, HKS90.out, ?_⟩
                unfold alarmV
                rw [if_pos hr]
                dsimp only
                rw [← HHS.out, ← HES.out]
                exact ⟨_, _, _, rfl, by rw [← List.append_assoc]; exact HSE.out, HET.out, HA90.out.st⟩
      · have hr9 : x.r = 1000000000 := by have := HOK.out.b.r1; omega
        have HR := Lib.hid hr; clear hr
        refine (ping_lim x.r x.wt comps _ _ wr (by omega) (by decide) (Ints.of_own HA3.out.st.wt) (Ints.of_own (l := comps) HT3.out) HOK.out.b hr9 (show ∀ z ∈ comps, 1 ≤ z ∧ z < 32 by decide)).mono ?_
        rintro e w4 ⟨rfl, hb4⟩
        have HA4 := Lib.hid (HA3.out.below hb4)
        have hwb : base ≤ wr.heap.size := by have := HB3.out.size; omega
        have HB4 := Lib.hid (HB3.out.trans (hb4.mono hwb))
        have HKS4 := Lib.hid (HKS3.out.trans (KS.of_below hb4))
        clear hb4 HA3 HT3 HB3 s0 s1 hr9
        go_upto_region 11 with (fail)
        obtain ⟨w9, hw5⟩ : ∃ X, X = w4.alloc (.cells #[.int .i64 0, .slice none 0 0] 38) := ⟨_, rfl⟩
        rw [← hw5]
        have hb5 : Below w4.heap.size w4 w9 := by rw [hw5]; exact (Below.refl _ _).alloc (Nat.le_refl _) _
        have hs4 := HB4.out.size
        have HA9 := Lib.hid (HA4.out.below hb5)
        have HB9 := Lib.hid (HB4.out.trans (hb5.mono (by omega)))
        have HKS9 := Lib.hid (HKS4.out.trans (KS.of_below hb5))
        clear hw5 hb5 HA4 HB4
        obtain ⟨z9, hz9⟩ : ∃ X, X = w9.alloc (.cells #[.int .i64 4, .int .i64 64, .int .i64 1, .int .i64 0, .int .i64 0, .int .i64 0, .int .i64 0, .int .i64 0, .int .i64 0, .int .i64 0, .int .i64 0, .int .i64 0, .int .i64 0, .slice none 0 0, .slice none 0 0] 58) := ⟨_, rfl⟩
        have hbz : Below w9.heap.size w9 z9 := by rw [hz9]; exact (Below.refl _ _).alloc (Nat.le_refl _) _
        have hxz : z9.heap[w9.heap.size]? = some (.cells (encE (timE)).toArray 58 (0, 0)) := by rw [hz9]; exact heap_alloc_new w9 _
        have HZ := Lib.hid hz9
        have HAz9 := Lib.hid (HA9.out.below hbz)
        have HXz := Lib.hid (effs_block hxz)
        have HBz9 := Lib.hid (HB9.out.trans (hbz.mono (by have := HB9.out.size; omega)))
        have HKSz := Lib.hid (HKS9.out.trans (KS.of_below hbz))
        clear hbz hxz hz9 HA9 HKS9
        go_wp2_with fail
        rw [← HZ.out]
        refine (add_any L base _ _ ([] : List Ef) [timE] z9 HAz9.out.lb HAz9.out.lr HAz9.out.lo HXz.out (by first | (simp; done) | (simp; omega))).mono ?_
        rintro e w90 ⟨lv90, rfl, hl, hr, hb, hk⟩
        have HA90 := Lib.hid (HAz9.out.add hl hr hk)
        have HB90 := Lib.hid (HBz9.out.trans hb)
        have HKS90 := Lib.hid (HKSz.out.trans (hk.ks HAz9.out.lb))
        clear HKSz hl hr hb hk HZ HXz HAz9 HBz9
        obtain ⟨lv, hlv⟩ : ∃ v, v = lv90 := ⟨_, rfl⟩
        have HSE : Hid (SlX (List.range base) w90 lv90 (([] : List Ef) ++ [timE])) := Lib.hid (Raw.of_own HA90.out.lr (encE_one _) (fun f hf => List.mem_range.1 hf))
        have HET : Hid (EvT w90 lv90) := Lib.hid (fun q hq => by obtain ⟨cur, hc⟩ := own_type HA90.out.lr hq; exact ⟨_, _, hc⟩)
        obtain ⟨la, lc, hls⟩ := own_slice HA90.out.lr
        obtain ⟨n9, hn9⟩ : ∃ n, n = (([] : List Ef) ++ [timE]).length := ⟨_, rfl⟩
        rw [← hn9] at hls
        clear hn9 hlv lv
        subst hls
        have d0 := box_at HA90.out.lb (j := 0) rfl
        go_wp2
        go_ret2
        refine ⟨HB90.out, HKS90.out, ?_⟩
        unfold alarmV
        rw [if_neg (by have := HR.out; omega)]
        exact ⟨_, _, _, rfl, HSE.out, HET.out, HA90.out.st⟩
end Go.Proofs.YthmnhpakgjnngaaGreatDoor
