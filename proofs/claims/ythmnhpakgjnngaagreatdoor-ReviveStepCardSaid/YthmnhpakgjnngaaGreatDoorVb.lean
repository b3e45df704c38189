/- Revive: proper, Valid -/
import Derived.Test.YthmnhpakgjnngaaGreatDoorVa
import Derived.Deep.CutRange
import Derived.WalkMore
namespace Go.Rv
open Go Go.RowKit Go.Bs Go.Cl Go.Rw Go.Dt
theorem okBb_bad {r : Int} {l : List Int} {k : Nat} (hk : k < l.length) (h : okI l k = false) : okBb r l = false := by
  unfold okBb; rw [validI_false hk h]; rfl
theorem okBb_all {r : Int} {l : List Int} (h : ∀ k, k < l.length → okI l k = true) : okBb r l = (decide (0 ≤ r) && decide (r ≤ 1000000000) && (decide (0 < r) || decide (l.length = 0))) := by
  unfold okBb; rw [validI_true h]; rfl
theorem all_bad {l : List Int} {k : Nat} (hk : k < l.length) (h : cmpt (itAt l k) = false) : l.all cmpt = false := by
  rw [List.all_eq_false]; exact ⟨_, List.getElem_mem hk, by rw [it_get hk, h]; decide⟩
theorem all_good {l : List Int} (h : ∀ k, k < l.length → cmpt (itAt l k) = true) : l.all cmpt = true := by
  rw [List.all_eq_true]; intro x hx
  obtain ⟨k, hk, rfl⟩ := List.getElem_of_mem hx
  rw [it_get hk]; exact h k hk
end Go.Rv
namespace Go.Proofs.YthmnhpakgjnngaaGreatDoor
open Go.RowKit Go.Bs Go.Cl Go.Rw Go.Dt Go.Rv
theorem dprop_eq (t : Int) (r : Bool) (w : World) (h : prp t = r) : Calls Tryz.prog 81 #[.int .i64 t] w fun e w' => e = .returned (.bool r) ∧ w = w' := h ▸ proper_any t w
set_option maxRecDepth 100000 in
set_option maxHeartbeats 1000000 in
theorem dvalid_any (r : Int) (l : List Int) (v : Value) (w : World) (hl : l.length ≤ 1000) (h : Ints [] w v l) :
    Calls Tryz.prog 58 #[.agg #[.int .i64 r, v]] w fun e w' => e = .returned (.bool (okBb r l)) ∧ Below w.heap.size w w' := by
  obtain ⟨a, cap, rfl⟩ := Raw.slice h
  have H := Lib.hid h; clear h
  have HB := Lib.hid ((Below.refl w.heap.size w).alloc (Nat.le_refl _) (.cells #[.int .i64 r, .slice a l.length cap] 38))
  go_enter Tryz.func58, Tryz.ntmps58
  go_wp2
  go_loopw [8] (fun i wr => ∃ k : Nat, k ≤ l.length ∧ i = .int .i64 k ∧ Below w.heap.size w wr ∧ wr.heap[w.heap.size]? = some (.cells #[.int .i64 r, .slice a l.length cap] 38 (0, 0)) ∧ ∀ j, j < k → okI l j = true) (fun i _ => l.length - (intOf i).toNat)
  case atStart => exact ⟨0, Nat.zero_le _, rfl, HB.out, heap_alloc_new w _, fun j hj => absurd hj (Nat.not_lt_zero _)⟩
  case round =>
    obtain ⟨k, hk, rfl, hbel, hbox, hok⟩ := hrel
    have hsz := hbel.size
    have HBX := Lib.hid hbox
    have HBL := Lib.hid hbel
    have HOK := Lib.hid hok
    clear hok
    have hI : Ints [] wr (.slice a l.length cap) l := Raw.below H.out hbel
    have o0 := box_at hbox (j := 0) rfl
    have o1 := box_at hbox (j := 1) rfl
    by_cases hlt : k < l.length
    · obtain ⟨b, off, c', e', hb, h0⟩ := Ints.elem hI hlt
      have hk1' : k - 1 < l.length := by omega
      obtain ⟨b2, off2, c2, e2, _, h1⟩ := Ints.elem hI hk1'
      cases e'; cases e2
      rw [it_get hlt] at h0
      rw [it_get hk1'] at h1
      have hF : okI l k = (prp (itAt l k) && (decide (k = 0) || decide (itAt l (k - 1) < itAt l k))) := rfl
      generalize itAt l k = x at h0 hF
      generalize itAt l (k - 1) = y at h1 hF
      clear hI hbel hbox
      have HF := Lib.hid hF
      clear hF
      cases hp : prp x
      · have Hp := Lib.hid hp; clear hp
        go_wp2_with fail
        refine (dprop_eq x false _ Hp.out).mono ?_
        rintro e w1 ⟨rfl, rfl⟩
        go_wp2
        go_ret
        exact ⟨ret_bool (okBb_bad hlt (by rw [HF.out, Hp.out]; rfl)).symm, HBL.out⟩
      have Hp := Lib.hid hp; clear hp
      have hnext : ∀ (hx : k = 0 ∨ y < x), ∀ j, j < k + 1 → okI l j = true := fun hx j hj => by
        by_cases hjk : j < k
        · exact HOK.out j hjk
        · obtain rfl : j = k := by omega
          rw [HF.out, Hp.out]
          rcases hx with hx | hx <;> simp [hx]
      have HN := Lib.hid hnext
      clear hnext
      go_wp2_with fail
      refine (dprop_eq x true _ Hp.out).mono ?_
      rintro e w1 ⟨rfl, rfl⟩
      by_cases hk0 : 0 < k
      · have hk1 : ((k : Int) - 1).toNat = k - 1 := by omega
        by_cases hyx : x ≤ y
        · have hr : okBb r l = false := okBb_bad hlt (by rw [HF.out, Hp.out]; simp; omega)
          have HR := Lib.hid hr; clear hr
          go_wp2
          go_ret
          exact ⟨ret_bool HR.out.symm, HBL.out⟩
        · go_wp2
          go_roundw
          case rel => exact ⟨k + 1, by omega, by go_num, HBL.out, HBX.out, HN.out (.inr (by omega))⟩
          case measure => simp [intOf]; omega
      · obtain rfl : k = 0 := by omega
        go_wp2
        go_roundw
        case rel => exact ⟨1, by omega, by go_num, HBL.out, HBX.out, HN.out (by simp)⟩
        case measure => simp [intOf]; omega
    · obtain rfl : k = l.length := by omega
      have HR := Lib.hid (okBb_all (r := r) HOK.out)
      clear hI hbel hbox
      by_cases h0 : 0 ≤ r
      · by_cases h1 : r ≤ 1000000000
        · by_cases h2 : 0 < r
          · go_wp2
            go_ret
            exact ⟨ret_bool (by rw [HR.out]; simp [h0, h1, h2]), HBL.out⟩
          · go_wp2
            go_ret
            exact ⟨ret_bool (by rw [HR.out, Bool.eq_iff_iff]; simp only [Bool.and_eq_true, Bool.or_eq_true, decide_eq_true_eq, beq_iff_eq]; omega), HBL.out⟩
        · go_wp2
          go_ret
          exact ⟨ret_bool (by rw [HR.out, decide_eq_false (show ¬ r ≤ 1000000000 by omega), Bool.and_false, Bool.false_and]), HBL.out⟩
      · go_wp2
        go_ret
        exact ⟨ret_bool (by rw [HR.out, decide_eq_false (show ¬ 0 ≤ r by omega), Bool.false_and, Bool.false_and]), HBL.out⟩
set_option maxHeartbeats 400000 in
theorem cmpt_any (t : Int) (w : World) : Calls Tryz.prog 61 #[.int .i64 t] w fun e w' => e = .returned (.bool (cmpt t)) ∧ w = w' := by
  go_enter Tryz.func61, Tryz.ntmps61
  go_wp2
  all_goals
    go_ret
    refine ⟨ret_bool ?_, rfl⟩
    rw [Bool.eq_iff_iff]; simp [cmpt, *] <;> omega
theorem cmpt_eq (t : Int) (r : Bool) (w : World) (h : cmpt t = r) : Calls Tryz.prog 61 #[.int .i64 t] w fun e w' => e = .returned (.bool r) ∧ w = w' := h ▸ cmpt_any t w
set_option maxHeartbeats 400000 in
theorem closV_eq (t : Int) (r : Bool) (w : World) (h : cmpt t = r) : Calls Tryz.prog 60 #[.int .i64 t] w fun e w' => e = .returned (.bool (!r)) ∧ w = w' := by
  have Hp := Lib.hid h; clear h
  go_enter Tryz.func60, Tryz.ntmps60
  go_wp2_with fail
  refine (cmpt_eq t r _ Hp.out).mono ?_
  rintro e w1 ⟨rfl, rfl⟩
  go_wp2
  go_ret
  exact ⟨rfl, rfl⟩
set_option maxRecDepth 100000 in
set_option maxHeartbeats 1000000 in
theorem indexV_any (l : List Int) (v : Value) (w : World) (hl : l.length ≤ 1000) (h : Ints [] w v l) :
    Calls Tryz.prog 82 #[v, .func (.func 60) #[] #[]] w fun e w' => (∃ k : Int, e = .returned (.int .i64 k) ∧ -1 ≤ k ∧ decide (0 ≤ k) = !(l.all cmpt)) ∧ w' = w := by
  obtain ⟨a, cap, rfl⟩ := Raw.slice h
  have H := Lib.hid h; clear h
  go_enter Tryz.func82, Tryz.ntmps82
  go_wp2
  go_loopw [8] (fun i wr => ∃ k : Nat, k ≤ l.length ∧ i = .int .i64 k ∧ wr = w ∧ ∀ j, j < k → cmpt (itAt l j) = true) (fun i _ => l.length - (intOf i).toNat)
  case atStart => exact ⟨0, Nat.zero_le _, rfl, rfl, fun j hj => absurd hj (Nat.not_lt_zero _)⟩
  case round =>
    obtain ⟨k, hk, rfl, rfl, hok⟩ := hrel
    have HOK := Lib.hid hok; clear hok
    by_cases hlt : k < l.length
    · obtain ⟨b, off, c', e', hb, h0⟩ := Ints.elem H.out hlt
      cases e'
      rw [it_get hlt] at h0
      obtain ⟨x, hx⟩ : ∃ x, x = itAt l k := ⟨_, rfl⟩
      rw [← hx] at h0
      have HX := Lib.hid hx; clear hx
      cases hp : cmpt x
      · have Hp := Lib.hid hp; clear hp
        go_wp2_with fail
        refine (closV_eq x false _ Hp.out).mono ?_
        rintro e w1 ⟨rfl, rfl⟩
        go_wp2
        go_ret
        exact ⟨⟨_, rfl, by omega, by rw [all_bad hlt (by rw [← HX.out]; exact Hp.out)]; simp⟩, rfl⟩
      · have Hp := Lib.hid hp; clear hp
        go_wp2_with fail
        refine (closV_eq x true _ Hp.out).mono ?_
        rintro e w1 ⟨rfl, rfl⟩
        go_wp2
        go_roundw
        case rel => exact ⟨k + 1, by omega, by go_num, trivial, fun j hj => by
          by_cases hjk : j < k
          · exact HOK.out j hjk
          · obtain rfl : j = k := by omega
            rw [← HX.out]; exact Hp.out⟩
        case measure => simp [intOf]; omega
    · obtain rfl : k = l.length := by omega
      go_wp2
      go_ret
      exact ⟨⟨_, rfl, by omega, by rw [all_good HOK.out]; rfl⟩, rfl⟩
set_option maxHeartbeats 400000 in
theorem containsV_eq (l : List Int) (v : Value) (b : Bool) (w : World) (hl : l.length ≤ 1000) (h : Ints [] w v l) (hb : l.all cmpt = b) :
    Calls Tryz.prog 59 #[v, .func (.func 60) #[] #[]] w fun e w' => e = .returned (.bool (!b)) ∧ w' = w := by
  obtain ⟨a, cap, rfl⟩ := Raw.slice h
  have H := Lib.hid h; clear h
  have HB := Lib.hid hb; clear hb
  go_enter Tryz.func59, Tryz.ntmps59
  go_wp2_with fail
  refine (indexV_any l _ _ hl H.out).mono ?_
  rintro e w1 ⟨⟨k, rfl, hk1, hk2⟩, rfl⟩
  rw [HB.out] at hk2
  have HK := Lib.hid hk2; clear hk2
  go_wp2
  go_ret
  exact ⟨ret_bool HK.out, rfl⟩
theorem dvalid_eq (r : Int) (l : List Int) (v : Value) (b : Bool) (w : World) (hl : l.length ≤ 1000) (h : Ints [] w v l) (hb : okBb r l = b) :
    Calls Tryz.prog 58 #[.agg #[.int .i64 r, v]] w fun e w' => e = .returned (.bool b) ∧ Below w.heap.size w w' := hb ▸ dvalid_any r l v w hl h
set_option maxRecDepth 100000 in
set_option maxHeartbeats 2000000 in
theorem valid_any (s : Sv) (wv hv : Value) (w : World) (hl1 : s.wt.length ≤ 1000) (hl2 : s.hs.length ≤ 1000) (h1 : Ints [] w wv s.wt) (h2 : SlH w hv s.hs) :
    Calls Tryz.prog 26 #[.agg #[.int .i64 s.r, wv, hv]] w fun e w' => e = .returned (.bool (validV s)) ∧ Below w.heap.size w w' := by
  obtain ⟨r, wt, hs⟩ := s
  dsimp only at hl1 hl2 h1 h2 ⊢
  obtain ⟨a, c, rfl⟩ := Raw.slice h1
  obtain ⟨ha, hc, rfl⟩ := Raw.slice h2
  have H1 := Lib.hid h1; have H2 := Lib.hid h2
  clear h1 h2
  obtain ⟨W, hW⟩ : ∃ W, W = w.alloc (.cells #[.int .i64 r, .slice a wt.length c, .slice ha hs.length hc] 41) := ⟨_, rfl⟩
  have hb : Below w.heap.size w W := by rw [hW]; exact (Below.refl w.heap.size w).alloc (Nat.le_refl _) _
  have hx : W.heap[w.heap.size]? = some (.cells #[.int .i64 r, .slice a wt.length c, .slice ha hs.length hc] 41 (0, 0)) := by rw [hW]; exact heap_alloc_new w _
  have HB := Lib.hid hb; have HX := Lib.hid hx; have HW := Lib.hid hW
  have hsz := hb.size
  have o0 := box_at hx (j := 0) rfl
  have o1 := box_at hx (j := 1) rfl
  clear hb hx hW
  have HV := Lib.hid (show validV ⟨r, wt, hs⟩ = (okBb r wt && wt.all cmpt && validH hs) from rfl)
  go_enter Tryz.func26, Tryz.ntmps26
  go_upto_region 1 with (fail)
  rw [← HW.out]
  clear HW
  cases hv1 : okBb r wt
  · have Hv1 := Lib.hid hv1; clear hv1
    go_wp2_with fail
    refine (dvalid_eq r wt _ false _ hl1 (Raw.below H1.out HB.out) Hv1.out).mono ?_
    rintro e w1 ⟨rfl, hb1⟩
    have hfin := HB.out.trans (hb1.mono hsz)
    go_wp2
    go_ret
    exact ⟨ret_bool (by rw [HV.out, Hv1.out]; rfl), hfin⟩
  have Hv1 := Lib.hid hv1; clear hv1
  go_wp2_with fail
  refine (dvalid_eq r wt _ true _ hl1 (Raw.below H1.out HB.out) Hv1.out).mono ?_
  rintro e w1 ⟨rfl, hb1⟩
  have hfin := HB.out.trans (hb1.mono hsz)
  have hX1 := (hb1.block _ (Array.getElem?_eq_some_iff.1 HX.out).1).trans HX.out
  have hsz1 := hfin.size
  clear o0 o1 HB HX hb1 hsz
  have HB := Lib.hid hfin; have HX := Lib.hid hX1
  have o1 := box_at hX1 (j := 1) rfl
  have o2 := box_at hX1 (j := 2) rfl
  clear hfin hX1
  cases hv2 : wt.all cmpt
  · have Hv2 := Lib.hid hv2; clear hv2
    go_wp2_with fail
    refine (containsV_eq wt _ false _ hl1 (Raw.below H1.out HB.out) Hv2.out).mono ?_
    rintro e w2 ⟨rfl, rfl⟩
    go_wp2
    go_ret
    exact ⟨ret_bool (by rw [HV.out, Hv1.out, Hv2.out]; rfl), HB.out⟩
  have Hv2 := Lib.hid hv2; clear hv2
  go_wp2_with fail
  refine (containsV_eq wt _ true _ hl1 (Raw.below H1.out HB.out) Hv2.out).mono ?_
  rintro e w2 ⟨rfl, rfl⟩
  go_wp2
  go_loopw [18] (fun i wr => ∃ k : Nat, k ≤ hs.length ∧ i = .int .i64 k ∧ Below w.heap.size w wr ∧ wr.heap[w.heap.size]? = some (.cells #[.int .i64 r, .slice a wt.length c, .slice ha hs.length hc] 41 (0, 0)) ∧ ∀ j, j < k → okH hs j = true) (fun i _ => hs.length - (intOf i).toNat)
  case atStart => exact ⟨0, Nat.zero_le _, rfl, HB.out, HX.out, fun j hj => absurd hj (Nat.not_lt_zero _)⟩
  case round =>
    clear o1 o2 HB HX hsz1
    obtain ⟨k, hk, rfl, hbel, hbox, hok⟩ := hrel
    have Hok := Lib.hid hok; clear hok
    have hsz := hbel.size
    have hbl := (Array.getElem?_eq_some_iff.1 hbox).1
    by_cases hlt : k < hs.length
    · obtain ⟨b, off, rfl, hb, h0, h1, h2⟩ := (H2.out.below hbel).elem hlt
      obtain ⟨b', off', e', _, f0, _, _⟩ := (H2.out.below hbel).elem (show k - 1 < hs.length by omega)
      cases e'
      have o2 := box_at hbox (j := 2) rfl
      have hF : okH hs k = (okE (hsAt hs k) && (decide (k = 0) || decide ((hsAt hs (k - 1)).t < (hsAt hs k).t))) := rfl
      generalize hsAt hs k = x at h0 h1 h2 hF
      generalize hsAt hs (k - 1) = y at f0 hF
      obtain ⟨xt, xn, xc⟩ := x
      obtain ⟨yt, yn, yc⟩ := y
      dsimp only at h0 h1 h2 f0 hF
      have HF := Lib.hid hF; clear hF
      have hbel1 := hbel.alloc hsz (.cells #[.int .i64 xt, .int .i64 xn, .int .i64 xc] 68)
      have HX := Lib.hid ((((Below.refl wr.heap.size wr).alloc (Nat.le_refl _) (.cells #[.int .i64 xt, .int .i64 xn, .int .i64 xc] 68)).drew.block _ hbl).trans hbox)
      have HBL1 := Lib.hid hbel1.drew
      have hbs : b < wr.heap.size + 1 := by omega
      have hbl' : w.heap.size < wr.heap.size + 1 := by omega
      clear hbel hbox
      have HS := Lib.hid hbel1; clear hbel1
      go_wp2
      refine Txt.wp_txt (by kernel_rfl) (by kernel_rfl) ?_
      go_wp2_with (go_at_call 61; refine (cmpt_any _ _).mono ?_; rintro e w1 ⟨rfl, rfl⟩)
      all_goals (refine Txt.DrawPost.mk0 (by rfl) ?_; go_wp2)
      all_goals first
        | (go_ret; exact ⟨ret_bool (by rw [HV.out, validH_false hlt (by rw [HF.out]; simp [okE, *]; try omega), Bool.and_false]), HBL1.out⟩)
        | (go_roundw
           case rel =>
             refine ⟨k + 1, by omega, by go_num, HBL1.out, HX.out, fun j hj => ?_⟩
             by_cases hjk : j < k
             · exact Hok.out j hjk
             · obtain rfl : j = k := by omega
               rw [HF.out]; simp [okE, *]; try omega
           case measure => simp [intOf]; omega)
    · go_wp2
      go_ret
      exact ⟨ret_bool (by rw [HV.out, Hv1.out, Hv2.out, validH_true fun j hj => Hok.out j (by omega)]; rfl), hbel⟩
theorem valid_eq (s : Sv) (wv hv : Value) (b : Bool) (w : World) (hl1 : s.wt.length ≤ 1000) (hl2 : s.hs.length ≤ 1000) (h1 : Ints [] w wv s.wt) (h2 : SlH w hv s.hs) (hb : validV s = b) :
    Calls Tryz.prog 26 #[.agg #[.int .i64 s.r, wv, hv]] w fun e w' => e = .returned (.bool b) ∧ Below w.heap.size w w' := hb ▸ valid_any s wv hv w hl1 hl2 h1 h2
end Go.Proofs.YthmnhpakgjnngaaGreatDoor
