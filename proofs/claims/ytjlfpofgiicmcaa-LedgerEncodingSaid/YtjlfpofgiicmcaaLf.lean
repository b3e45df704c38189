/- Ledger: walks: From, To, Equal, the reference's See, awake -/
import Derived.Test.YtjlfpofgiicmcaaLe
namespace Go.Proofs.Ytjlfpofgiicmcaa
open Go.RowKit Go.Bs Go.Cl Go.Rw Go.Lg

theorem lt_ext {x y : Lt} (h1 : x.t = y.t) (h2 : x.q = y.q) : x = y := by cases x; cases y; simp_all
def eqL (l m : List Lt) : Bool := decide (l.length = m.length) && (List.range l.length).all fun k => decide ((ltAt l k).t = (ltAt m k).t) && decide ((ltAt l k).q = (ltAt m k).q)
theorem eqL_len {l m : List Lt} (h : ¬ l.length = m.length) : eqL l m = false := by simp [eqL, h]
theorem eqL_yes {l m : List Lt} (h : l.length = m.length) (h2 : ∀ j, j < l.length → ltAt l j = ltAt m j) : eqL l m = true := by
  unfold eqL
  simp only [h, decide_true, Bool.true_and, List.all_eq_true, List.mem_range]
  intro k hk
  rw [h2 k (by omega)]; simp
theorem eqL_refl (l : List Lt) : eqL l l = true := eqL_yes rfl fun _ _ => rfl
theorem eqL_no {l m : List Lt} {k : Nat} (h : ¬ ltAt l k = ltAt m k) (hk : k < l.length := by omega) : eqL l m = false := by
  unfold eqL
  rw [Bool.and_eq_false_iff]
  refine .inr (List.all_eq_false.2 ⟨k, List.mem_range.2 hk, ?_⟩)
  simp only [Bool.and_eq_true, decide_eq_true_eq]
  exact fun e => h (lt_ext e.1 e.2)

set_option maxRecDepth 100000 in
set_option maxHeartbeats 1000000 in
theorem from_any (v : Value) (l : List Lt) (w : World) (hl : l.length ≤ 1000000) (h : SlL w v l) :
    Calls Try.prog 12 #[v] w fun e w' => ∃ v', e = .returned v' ∧ SlL w' v' l ∧ Below w.heap.size w w' := by
  obtain ⟨a, cap, rfl⟩ := Raw.slice h
  have H := Lib.hid h; clear h
  go_enter Try.func12, Try.ntmps12
  go_wp2
  go_loopw [3, 4] (fun ov i wr => ∃ k : Nat, k ≤ l.length ∧ i = .int .i64 k ∧ wr.ownsRow w.heap.size 30 2 ov (l.take k).length ((l.take k).flatMap encL) ∧ Below w.heap.size w wr) (fun _ i _ => l.length - (intOf i).toNat)
  case atStart => exact ⟨0, Nat.zero_le _, rfl, World.ownsRow_nil _ _ _ _, Below.refl _ _⟩
  case round =>
    obtain ⟨k, hk, rfl, hown, hbel⟩ := hrel
    have hsz := hbel.size
    have htl : (l.take k).length ≤ l.length := by simp; omega
    by_cases hlt : k < l.length
    · obtain ⟨b, off, rfl, hb, h0, h1⟩ := (H.out.below hbel).elem hlt
      have Htk := Lib.hid (take_succ_lt hlt)
      obtain ⟨z, hz⟩ : ∃ z, ltAt l k = z := ⟨_, rfl⟩
      rw [hz] at h0 h1
      have Hz := Lib.hid hz; clear hz
      have Hown := Lib.hid hown; clear hown
      have hbel1 := hbel.alloc hsz (.cells #[.int .i64 z.t, .int .i64 z.q] 30)
      have Hx := Lib.hid (box2 wr.heap.size z (heap_alloc_new wr (.cells #[.int .i64 z.t, .int .i64 z.q] 30)))
      go_wp2_with (at_builtin; refine wpList_app el22 Try.underlying22 (Hown.out.alloc _) Hx.out hbel1 rfl _ _ rfl rfl rfl ?c3 (Nat.le_refl _) ?c5 ?_)
      case c3 => omega
      case c5 => first | omega | (simp; omega)
      intro v2 w2 hown2 hb2 hg2 hs2
      have Hfin : Hid (w2.ownsRow w.heap.size 30 2 v2 (l.take (k + 1)).length ((l.take (k + 1)).flatMap encL)) := Lib.hid (own_list hown2 (by rw [Htk.out, Hz.out]; simp))
      clear hown2 hg2
      go_wp2
      go_roundw
      case rel => exact ⟨k + 1, by omega, by go_num, Hfin.out, hb2⟩
      case measure => simp [intOf]; omega
    · obtain rfl : k = l.length := by omega
      rw [List.take_length] at hown
      have Hfin := Lib.hid (SlL.of_own hown); clear hown
      go_wp2
      go_ret
      exact ⟨_, rfl, Hfin.out, hbel⟩

set_option maxRecDepth 100000 in
set_option maxHeartbeats 1000000 in
theorem to_any (v : Value) (l : List Lt) (w : World) (hl : l.length ≤ 1000000) (h : SlL w v l) :
    Calls Try.prog 14 #[v] w fun e w' => ∃ v', e = .returned v' ∧ SlL w' v' l ∧ Below w.heap.size w w' := by
  obtain ⟨a, cap, rfl⟩ := Raw.slice h
  have H := Lib.hid h; clear h
  go_enter Try.func14, Try.ntmps14
  go_wp2
  go_loopw [3, 4] (fun ov i wr => ∃ k : Nat, k ≤ l.length ∧ i = .int .i64 k ∧ wr.ownsRow w.heap.size 55 2 ov (l.take k).length ((l.take k).flatMap encL) ∧ Below w.heap.size w wr) (fun _ i _ => l.length - (intOf i).toNat)
  case atStart => exact ⟨0, Nat.zero_le _, rfl, World.ownsRow_nil _ _ _ _, Below.refl _ _⟩
  case round =>
    obtain ⟨k, hk, rfl, hown, hbel⟩ := hrel
    have hsz := hbel.size
    have htl : (l.take k).length ≤ l.length := by simp; omega
    by_cases hlt : k < l.length
    · obtain ⟨b, off, rfl, hb, h0, h1⟩ := (H.out.below hbel).elem hlt
      have Htk := Lib.hid (take_succ_lt hlt)
      obtain ⟨z, hz⟩ : ∃ z, ltAt l k = z := ⟨_, rfl⟩
      rw [hz] at h0 h1
      have Hz := Lib.hid hz; clear hz
      have Hown := Lib.hid hown; clear hown
      have hbel1 := hbel.alloc hsz (.cells #[.int .i64 z.t, .int .i64 z.q] 55)
      have Hx := Lib.hid (box2 wr.heap.size z (heap_alloc_new wr (.cells #[.int .i64 z.t, .int .i64 z.q] 55)))
      go_wp2_with (at_builtin; refine wpList_app el25 Try.underlying25 (Hown.out.alloc _) Hx.out hbel1 rfl _ _ rfl rfl rfl ?c3 (Nat.le_refl _) ?c5 ?_)
      case c3 => omega
      case c5 => first | omega | (simp; omega)
      intro v2 w2 hown2 hb2 hg2 hs2
      have Hfin : Hid (w2.ownsRow w.heap.size 55 2 v2 (l.take (k + 1)).length ((l.take (k + 1)).flatMap encL)) := Lib.hid (own_list hown2 (by rw [Htk.out, Hz.out]; simp))
      clear hown2 hg2
      go_wp2
      go_roundw
      case rel => exact ⟨k + 1, by omega, by go_num, Hfin.out, hb2⟩
      case measure => simp [intOf]; omega
    · obtain rfl : k = l.length := by omega
      rw [List.take_length] at hown
      have Hfin := Lib.hid (SlL.of_own hown); clear hown
      go_wp2
      go_ret
      exact ⟨_, rfl, Hfin.out, hbel⟩

set_option maxRecDepth 100000 in
set_option maxHeartbeats 1000000 in
theorem requal_any (v1 v2 : Value) (l m : List Lt) (w : World) (hl : l.length ≤ 1000000) (hm : m.length ≤ 1000000) (h1 : SlL w v1 l) (h2 : SlL w v2 m) :
    Calls Try.prog 11 #[v1, v2] w fun e w' => e = .returned (.bool (eqL l m)) ∧ Below w.heap.size w w' := by
  obtain ⟨a1, c1, rfl⟩ := Raw.slice h1
  obtain ⟨a2, c2, rfl⟩ := Raw.slice h2
  have H1 := Lib.hid h1; clear h1
  have H2 := Lib.hid h2; clear h2
  by_cases hlen : l.length = m.length
  · have Hlen := Lib.hid hlen
    rw [← hlen]
    clear hlen
    go_enter Try.func11, Try.ntmps11
    go_wp2
    go_loopw [5] (fun i wr => ∃ k : Nat, k ≤ l.length ∧ i = .int .i64 k ∧ (∀ j, j < k → ltAt l j = ltAt m j) ∧ Below w.heap.size w wr) (fun i _ => l.length - (intOf i).toNat)
    case atStart => exact ⟨0, Nat.zero_le _, rfl, fun j h => absurd h (Nat.not_lt_zero _), Below.refl _ _⟩
    case round =>
      obtain ⟨k, hk, rfl, hok, hbel⟩ := hrel
      have Hok := Lib.hid hok; clear hok
      have hsz := hbel.size
      by_cases hlt : k < l.length
      · obtain ⟨b, off, rfl, hb, h0, h1⟩ := (H1.out.below hbel).elem hlt
        obtain ⟨b', off', rfl, hb', h0', h1'⟩ := (H2.out.below hbel).elem (show k < m.length by have := Hlen.out; omega)
        by_cases e0 : (ltAt l k).t = (ltAt m k).t
        all_goals by_cases e1 : (ltAt l k).q = (ltAt m k).q
        all_goals
          have E0 := Lib.hid e0
          have E1 := Lib.hid e1
          try (have q0 : ((ltAt l k).t == (ltAt m k).t) = true := by simpa using e0)
          try (have q0 : ((ltAt l k).t == (ltAt m k).t) = false := by simpa using e0)
          try (have q1 : ((ltAt l k).q == (ltAt m k).q) = true := by simpa using e1)
          try (have q1 : ((ltAt l k).q == (ltAt m k).q) = false := by simpa using e1)
          clear e0 e1
          go_wp2
          refine Txt.wp_txt (by kernel_rfl) (by kernel_rfl) ?_
          go_wp2
          refine Txt.DrawPost.mk0 (by rfl) ?_
          go_wp2
          first
            | (go_ret
               exact ⟨ret_bool (by rw [eqL_no (k := k) (by intro e; first | exact E0.out (by rw [e]) | exact E1.out (by rw [e]))]), hbel.drew⟩)
            | (go_roundw
               case rel => exact ⟨k + 1, by omega, by go_num, fun j hj => by
                 by_cases hjk : j < k
                 · exact Hok.out j hjk
                 · obtain rfl : j = k := by omega
                   exact lt_ext E0.out E1.out, hbel.drew⟩
               case measure => simp [intOf]; omega)
      · obtain rfl : k = l.length := by omega
        have He := Lib.hid (eqL_yes Hlen.out Hok.out)
        go_wp2
        go_ret
        exact ⟨ret_bool He.out.symm, hbel⟩
  · have hne : ((l.length : Int) == m.length) = false := by rw [beq_eq_false_iff_ne]; omega
    have He := Lib.hid (eqL_len hlen)
    clear hlen
    go_enter Try.func11, Try.ntmps11
    go_wp2
    all_goals first
      | (go_ret; exact ⟨ret_bool He.out.symm, Below.refl _ _⟩)
      | (exfalso; simp at hne; omega)

set_option maxRecDepth 100000 in
set_option maxHeartbeats 1000000 in
theorem sequal_any (v1 v2 : Value) (l m : List Lt) (w : World) (hl : l.length ≤ 1000000) (hm : m.length ≤ 1000000) (h1 : SlL w v1 l) (h2 : SlL w v2 m) :
    Calls Try.prog 30 #[v1, v2] w fun e w' => e = .returned (.bool (eqL l m)) ∧ Below w.heap.size w w' := by
  obtain ⟨a1, c1, rfl⟩ := Raw.slice h1
  obtain ⟨a2, c2, rfl⟩ := Raw.slice h2
  have H1 := Lib.hid h1; clear h1
  have H2 := Lib.hid h2; clear h2
  by_cases hlen : l.length = m.length
  · have Hlen := Lib.hid hlen
    rw [← hlen]
    clear hlen
    go_enter Try.func30, Try.ntmps30
    go_wp2
    go_loopw [13] (fun i wr => ∃ k : Nat, k ≤ l.length ∧ i = .int .i64 k ∧ (∀ j, j < k → ltAt l j = ltAt m j) ∧ Below w.heap.size w wr) (fun i _ => l.length - (intOf i).toNat)
    case atStart => exact ⟨0, Nat.zero_le _, rfl, fun j h => absurd h (Nat.not_lt_zero _), Below.refl _ _⟩
    case round =>
      obtain ⟨k, hk, rfl, hok, hbel⟩ := hrel
      have Hok := Lib.hid hok; clear hok
      have hsz := hbel.size
      by_cases hlt : k < l.length
      · obtain ⟨b, off, rfl, hb, h0, h1⟩ := (H1.out.below hbel).elem hlt
        obtain ⟨b', off', rfl, hb', h0', h1'⟩ := (H2.out.below hbel).elem (show k < m.length by have := Hlen.out; omega)
        by_cases e0 : (ltAt l k).t = (ltAt m k).t
        all_goals by_cases e1 : (ltAt l k).q = (ltAt m k).q
        all_goals
          have E0 := Lib.hid e0
          have E1 := Lib.hid e1
          try (have q0 : ((ltAt l k).t == (ltAt m k).t) = true := by simpa using e0)
          try (have q0 : ((ltAt l k).t == (ltAt m k).t) = false := by simpa using e0)
          try (have q1 : ((ltAt l k).q == (ltAt m k).q) = true := by simpa using e1)
          try (have q1 : ((ltAt l k).q == (ltAt m k).q) = false := by simpa using e1)
          clear e0 e1
          go_wp2
          refine Txt.wp_txt (by kernel_rfl) (by kernel_rfl) ?_
          go_wp2
          refine Txt.DrawPost.mk0 (by rfl) ?_
          go_wp2
          first
            | (go_ret
               exact ⟨ret_bool (by rw [eqL_no (k := k) (by intro e; first | exact E0.out (by rw [e]) | exact E1.out (by rw [e]))]), hbel.drew⟩)
            | (go_roundw
               case rel => exact ⟨k + 1, by omega, by go_num, fun j hj => by
                 by_cases hjk : j < k
                 · exact Hok.out j hjk
                 · obtain rfl : j = k := by omega
                   exact lt_ext E0.out E1.out, hbel.drew⟩
               case measure => simp [intOf]; omega)
      · obtain rfl : k = l.length := by omega
        have He := Lib.hid (eqL_yes Hlen.out Hok.out)
        go_wp2
        go_ret
        exact ⟨ret_bool He.out.symm, hbel⟩
  · have hne : ((l.length : Int) == m.length) = false := by rw [beq_eq_false_iff_ne]; omega
    have He := Lib.hid (eqL_len hlen)
    clear hlen
    go_enter Try.func30, Try.ntmps30
    go_wp2
    all_goals first
      | (go_ret; exact ⟨ret_bool He.out.symm, Below.refl _ _⟩)
      | (exfalso; simp at hne; omega)

set_option maxHeartbeats 400000 in
theorem equal_any (v1 v2 : Value) (l m : List Lt) (w : World) (hl : l.length ≤ 1000000) (hm : m.length ≤ 1000000) (h1 : SlL w v1 l) (h2 : SlL w v2 m) :
    Calls Try.prog 18 #[v1, v2] w fun e w' => e = .returned (.bool (eqL l m)) ∧ Below w.heap.size w w' := by
  obtain ⟨a1, c1, rfl⟩ := Raw.slice h1
  obtain ⟨a2, c2, rfl⟩ := Raw.slice h2
  have H1 := Lib.hid h1; clear h1
  have H2 := Lib.hid h2; clear h2
  go_enter Try.func18, Try.ntmps18
  go_wp2_with fail
  refine (sequal_any _ _ l m _ hl hm H1.out H2.out).mono ?_
  rintro e w1 ⟨rfl, hb1⟩
  go_wp2
  go_ret
  exact ⟨rfl, hb1⟩

theorem rvalid_eq {v : Value} {l : List Lt} {w : World} {r : Bool} (hl : l.length ≤ 1000000) (h : SlL w v l) (hr : validL l = r) : Calls Try.prog 16 #[v] w fun e w' => e = .returned (.bool r) ∧ Below w.heap.size w w' := hr ▸ rvalid_any v l w hl h
theorem rseen_eq {v : Value} {l : List Lt} {t r : Int} {w : World} (hl : l.length ≤ 1000000) (h : SlL w v l) (hr : seenL l t = r) : Calls Try.prog 17 #[v, .int .i64 t] w fun e w' => e = .returned (.int .i64 r) ∧ Below w.heap.size w w' := hr ▸ rseen_any v l t w hl h

set_option maxRecDepth 100000 in
set_option maxHeartbeats 2000000 in
theorem rsee_any (v : Value) (l : List Lt) (t s : Int) (w : World) (hl : l.length ≤ 1000) (h : SlL w v l) (hs1 : -9223372036854775808 ≤ s) (hs2 : s ≤ 9223372036854775807) :
    Calls Try.prog 10 #[v, .int .i64 t, .int .i64 s] w (RetS (seeL l t s) w) := by
  obtain ⟨a, cap, rfl⟩ := Raw.slice h
  have H := Lib.hid h; clear h
  have hl6 : l.length ≤ 1000000 := by omega
  cases hv : validL l
  · rw [see_bad (.inl hv)]
    have Hv := Lib.hid hv; clear hv
    go_enter Try.func10, Try.ntmps10
    go_wp2_with fail
    refine (rvalid_eq hl6 H.out Hv.out).mono ?_
    rintro e w1 ⟨rfl, hb1⟩
    go_wp2
    go_ret3
    exact RetS.nil hb1
  cases hp : propL t
  · rw [see_bad (.inr hp)]
    have Hv := Lib.hid hv; clear hv
    have hbad : t < 0 ∨ 32 ≤ t := by
      rw [Bool.eq_false_iff] at hp
      simp [propL] at hp
      omega
    rcases hbad with hbad | hbad
    all_goals
      have hb' : ¬ 0 ≤ t ∨ ¬ t < 32 := by omega
      clear hb'
      try have hge : 0 ≤ t := by omega
      go_enter Try.func10, Try.ntmps10
      go_wp2_with fail
      refine (rvalid_eq hl6 H.out Hv.out).mono ?_
      rintro e w1 ⟨rfl, hb1⟩
      go_wp2
      go_ret3
      exact RetS.nil hb1
  obtain ⟨q, hq⟩ : ∃ q, seenL l t = q := ⟨_, rfl⟩
  have hq0 := seen_pos hv t
  rw [hq] at hq0
  have Hsrt := Lib.hid (valid_srt hv)
  have hp1 : 0 ≤ t := by simp [propL] at hp; exact hp.1
  have hp2 : t < 32 := by simp [propL] at hp; exact hp.2
  have hcase : (1 ≤ s ∧ s ≤ q) ∨ (¬ (1 ≤ s ∧ s ≤ q) ∧ (s < 1 ∨ s - 1 ≠ q)) ∨ (1 ≤ s ∧ s - 1 = q) := by omega
  rcases hcase with ⟨hc1, hc2⟩ | ⟨hc1, hc2⟩ | ⟨hc1, hc2⟩
  · rw [see_rep hv hp hc1 (by rw [hq]; exact hc2)]
    have Hv := Lib.hid hv; clear hv
    have Hq := Lib.hid hq; clear hq
    clear hp
    go_enter Try.func10, Try.ntmps10
    go_wp2_with fail
    refine (rvalid_eq hl6 H.out Hv.out).mono ?_
    rintro e w1 ⟨rfl, hb1⟩
    go_wp2_with fail
    refine (rseen_eq hl6 (H.out.below hb1) Hq.out).mono ?_
    rintro e w3 ⟨rfl, hb3⟩
    have hbel3 := hb1.trans (hb3.mono hb1.size)
    have hs3 := hbel3.size
    have hbel4 := hbel3.alloc hs3 (.cells #[] 30)
    have Hemp := Lib.hid (own_empty w3 w.heap.size 30 2 hs3)
    have HX := Lib.hid (Raw.below H.out hbel4)
    go_wp2_with (at_builtin; refine wpList_app el22 Try.underlying22 Hemp.out HX.out hbel4 rfl _ _ rfl rfl rfl ?c3 (Nat.le_refl _) ?c5 ?_)
    case c3 => omega
    case c5 => first | omega | (simp; omega)
    intro v5 w5 hown5 hb5 hg5 hs5
    obtain ⟨a5, c5, rfl⟩ := own_slice hown5
    have HF := Lib.hid (SlL.of_own (own_list (l := l) hown5 (by simp)))
    clear hown5 hg5
    go_wp2
    go_ret3
    exact ⟨_, rfl, by simpa using HF.out, hb5⟩
  · rw [see_gap hv hp (by rw [hq]; exact hc1) (by rw [hq]; exact hc2)]
    have Hv := Lib.hid hv; clear hv
    have Hq := Lib.hid hq; clear hq
    have Hc1 := Lib.hid hc1; clear hc1
    have Hc2 := Lib.hid hc2; clear hc2
    clear hp
    by_cases g1 : s < 1
    · have g2 : ¬ (1 ≤ s) := by omega
      go_enter Try.func10, Try.ntmps10
      go_wp2_with fail
      refine (rvalid_eq hl6 H.out Hv.out).mono ?_
      rintro e w1 ⟨rfl, hb1⟩
      go_wp2_with fail
      refine (rseen_eq hl6 (H.out.below hb1) Hq.out).mono ?_
      rintro e w3 ⟨rfl, hb3⟩
      have hbel3 := hb1.trans (hb3.mono hb1.size)
      have hs3 := hbel3.size
      have hbel4 := hbel3.alloc hs3 (.cells #[] 30)
      have Hemp := Lib.hid (own_empty w3 w.heap.size 30 2 hs3)
      have HX := Lib.hid (Raw.below H.out hbel4)
      go_wp2_with (at_builtin; refine wpList_app el22 Try.underlying22 Hemp.out HX.out hbel4 rfl _ _ rfl rfl rfl ?c3 (Nat.le_refl _) ?c5 ?_)
      case c3 => omega
      case c5 => first | omega | (simp; omega)
      intro v5 w5 hown5 hb5 hg5 hs5
      obtain ⟨a5, c5, rfl⟩ := own_slice hown5
      have HF := Lib.hid (SlL.of_own (own_list (l := l) hown5 (by simp)))
      clear hown5 hg5
      go_wp2
      go_ret3
      exact ⟨_, rfl, by simpa using HF.out, hb5⟩
    · have g3 : 1 ≤ s := by omega
      have g4 : q < s := by have := Hc1.out; omega
      have g5 : (s - 1 == q) = false := by have := Hc2.out; simp; omega
      have g6 : (s - 1 != q) = true := by have := Hc2.out; simp; omega
      have g7 : ¬ s ≤ q := by omega
      go_enter Try.func10, Try.ntmps10
      go_wp2_with fail
      refine (rvalid_eq hl6 H.out Hv.out).mono ?_
      rintro e w1 ⟨rfl, hb1⟩
      go_wp2_with fail
      refine (rseen_eq hl6 (H.out.below hb1) Hq.out).mono ?_
      rintro e w3 ⟨rfl, hb3⟩
      have hbel3 := hb1.trans (hb3.mono hb1.size)
      have hs3 := hbel3.size
      have hbel4 := hbel3.alloc hs3 (.cells #[] 30)
      have Hemp := Lib.hid (own_empty w3 w.heap.size 30 2 hs3)
      have HX := Lib.hid (Raw.below H.out hbel4)
      go_wp2_with (at_builtin; refine wpList_app el22 Try.underlying22 Hemp.out HX.out hbel4 rfl _ _ rfl rfl rfl ?c3 (Nat.le_refl _) ?c5 ?_)
      case c3 => omega
      case c5 => first | omega | (simp; omega)
      intro v5 w5 hown5 hb5 hg5 hs5
      obtain ⟨a5, c5, rfl⟩ := own_slice hown5
      have HF := Lib.hid (SlL.of_own (own_list (l := l) hown5 (by simp)))
      clear hown5 hg5
      go_wp2
      go_ret3
      exact ⟨_, rfl, by simpa using HF.out, hb5⟩
  · rw [see_new hv hp hc1 (by rw [hq]; exact hc2)]
    have Hv := Lib.hid hv; clear hv
    have Hq := Lib.hid hq; clear hq
    clear hp
    obtain rfl : q = s - 1 := hc2.symm
    have g1 : ¬ s ≤ s - 1 := by omega
    have g2 : ¬ s < 1 := by omega
    go_enter Try.func10, Try.ntmps10
    go_wp2_with fail
    refine (rvalid_eq hl6 H.out Hv.out).mono ?_
    rintro e w1 ⟨rfl, hb1⟩
    go_wp2_with fail
    refine (rseen_eq hl6 (H.out.below hb1) Hq.out).mono ?_
    rintro e w3 ⟨rfl, hb3⟩
    have hbel3 := hb1.trans (hb3.mono hb1.size)
    go_wp2_with fail
    refine (with_any _ l t s _ hl (H.out.below hbel3) Hsrt.out).mono ?_
    rintro e w4 ⟨v4, rfl, h4, hb4⟩
    obtain ⟨a4, c4, rfl⟩ := Raw.slice h4
    have HF := Lib.hid h4
    have hbel4 := hbel3.trans (hb4.mono hbel3.size)
    clear h4 hb4
    go_wp2
    go_ret3
    exact ⟨_, rfl, HF.out, hbel4⟩

theorem aw1 : seeL [] 5 1 = ([⟨5, 1⟩], 1, 0) := by rfl
theorem aw2 : seeL [⟨5, 1⟩] 5 1 = ([⟨5, 1⟩], 2, 0) := by rfl
theorem aw3 : seeL [⟨5, 1⟩] 5 3 = ([⟨5, 1⟩], 3, 0) := by rfl
set_option maxRecDepth 100000 in
set_option maxHeartbeats 1000000 in
theorem awake_any (w : World) : Calls Try.prog 8 #[] w fun e w' => e = .returned (.bool true) ∧ Below w.heap.size w w' := by
  go_enter Try.func8, Try.ntmps8
  go_wp2_with fail
  refine (see_any _ [] 5 1 _ (by decide) (Raw.empty _ _ _) (by decide) (by decide)).mono ?_
  rw [aw1]
  rintro e w1 ⟨v1, rfl, h1, hb1⟩
  obtain ⟨a1, c1, rfl⟩ := Raw.slice h1
  have H1 := Lib.hid h1; clear h1
  go_wp2_with fail
  refine (see_any _ [⟨5, 1⟩] 5 1 _ (by decide) H1.out (by decide) (by decide)).mono ?_
  rw [aw2]
  rintro e w2 ⟨v2, rfl, h2, hb2⟩
  obtain ⟨a2, c2, rfl⟩ := Raw.slice h2
  have hbel2 := hb1.trans (hb2.mono hb1.size)
  have H1 := Lib.hid (H1.out.below hb2)
  clear h2 hb2
  go_wp2_with fail
  refine (see_any _ [⟨5, 1⟩] 5 3 _ (by decide) H1.out (by decide) (by decide)).mono ?_
  rw [aw3]
  rintro e w3 ⟨v3, rfl, h3, hb3⟩
  obtain ⟨a3, c3, rfl⟩ := Raw.slice h3
  have hbel3 := hbel2.trans (hb3.mono hbel2.size)
  clear h3 hb3
  go_wp2
  go_ret
  exact ⟨rfl, hbel3⟩
end Go.Proofs.Ytjlfpofgiicmcaa
