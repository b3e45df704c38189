/- Ledger: walks: proper, Valid, Seen, Compare; the reference's Valid, Seen -/
import Derived.Test.YtjlfpofgiicmcaaLa
import Derived.Test.YtjlfpofgiicmcaaRows
namespace Go.Proofs.Ytjlfpofgiicmcaa
open Go.RowKit Go.Bs Go.Cl Go.Rw Go.Lg

/-- slices.Clone -/
theorem el25 : Rw.Elem Try.prog 25 55 2 16 (.agg #[.int .i64 0, .int .i64 0]) := ⟨Try.underlying25, by kernel_rfl, rfl, by decide⟩
set_option maxHeartbeats 400000 in
theorem clone24 {F : List Nat} {v : Value} {n : Nat} {xs : List Value} (w : World) (hl : n ≤ 1000000) (hr : Raw F 2 w v n xs) :
    Calls Try.prog 24 #[v] w fun e w' => ∃ v', e = .returned v' ∧ w'.ownsRow w.heap.size 55 2 v' n xs ∧ Below w.heap.size w w' := by
  have q32 : ∀ (w : World) (a : Option Addr) (n c n' c' : Nat), (binOp .eql 25 (.slice a n c) (.slice none n' c')).run Try.prog w = .ok (.bool a.isNone) w := fun w a n c n' c' => Lib.run_eql_slice_nil w _ _ a n c n' c' Try.underlying25
  obtain ⟨a, cap, hv⟩ : ∃ a cap, v = .slice a n cap := by obtain ⟨_, _, a, cap, h, _⟩ := hr; exact ⟨a, cap, h⟩
  have Hr := Lib.hid (hr.alloc (.cells #[] 55))
  have Hemp := Lib.hid (own_empty w w.heap.size 55 2 (Nat.le_refl _))
  cases a with
  | none =>
    have h0 : n = 0 ∧ xs = [] := by
      rcases hr.cases with ⟨h0, h1, _⟩ | ⟨_, b, off, c, h, _⟩
      · exact ⟨h0, h1⟩
      · rw [hv] at h; cases h
    obtain ⟨rfl, rfl⟩ := h0
    subst hv
    go_enter Try.func24, Try.ntmps24
    go_wp2
    go_ret
    exact ⟨_, rfl, World.ownsRow_nil _ _ _ _, Below.refl _ _⟩
  | some ad =>
    subst hv
    clear hr
    go_enter Try.func24, Try.ntmps24
    go_wp2_with (at_builtin; refine wpList_append_raw el25 Try.underlying25 Hemp.out Hr.out rfl _ _ rfl rfl rfl ?c3 ?c4 ?c5 ?_)
    case c3 => unfold maxLen; omega
    case c4 => omega
    case c5 => simp
    · intro v' w1 hown hgrow
      have hfin : Below w.heap.size w w1 := ((Below.refl w.heap.size w).alloc (Nat.le_refl _) _).grown hgrow (by simp) (fun q hq => by simp [Value.ownBlock] at hq; omega)
      have Hown : Hid (w1.ownsRow w.heap.size 55 2 v' n xs) := Lib.hid (by simpa using hown)
      clear hown hgrow
      go_wp2
      go_ret
      exact ⟨_, rfl, Hown.out, hfin⟩

set_option maxHeartbeats 400000 in
theorem proper_any (t : Int) (w : World) : Calls Try.prog 23 #[.int .i64 t] w fun e w' => e = .returned (.bool (propL t)) ∧ w = w' := by
  go_enter Try.func23, Try.ntmps23
  go_wp2
  all_goals
    go_ret
    refine ⟨ret_bool ?_, rfl⟩
    rw [Bool.eq_iff_iff]; simp [propL, *] <;> omega

set_option maxRecDepth 100000 in
set_option maxHeartbeats 1000000 in
theorem valid_any (v : Value) (l : List Lt) (w : World) (hl : l.length ≤ 1000000) (h : SlL w v l) :
    Calls Try.prog 15 #[v] w fun e w' => e = .returned (.bool (validL l)) ∧ Below w.heap.size w w' := by
  obtain ⟨a, cap, rfl⟩ := Raw.slice h
  have H := Lib.hid h; clear h
  go_enter Try.func15, Try.ntmps15
  go_wp2
  go_loopw [7] (fun i wr => ∃ k : Nat, k ≤ l.length ∧ i = .int .i64 k ∧ Below w.heap.size w wr ∧ ∀ j, j < k → okL l j = true) (fun i _ => l.length - (intOf i).toNat)
  case atStart => exact ⟨0, Nat.zero_le _, rfl, Below.refl _ _, fun j hj => absurd hj (Nat.not_lt_zero _)⟩
  case round =>
    obtain ⟨k, hk, rfl, hbel, hok⟩ := hrel
    have Hok := Lib.hid hok; clear hok
    have hsz := hbel.size
    by_cases hlt : k < l.length
    · obtain ⟨b, off, rfl, hb, h0, h1⟩ := (H.out.below hbel).elem hlt
      obtain ⟨b', off', e', _, f0, _⟩ := (H.out.below hbel).elem (show k - 1 < l.length by omega)
      cases e'
      have hbel1 := hbel.alloc hsz (.cells #[.int .i64 (ltAt l k).t, .int .i64 (ltAt l k).q] 55)
      have hbs : b < wr.heap.size + 1 := by omega
      have hbl : b ≤ wr.heap.size := by omega
      go_wp2
      refine Txt.wp_txt (by kernel_rfl) (by kernel_rfl) ?_
      go_wp2_with (go_at_call 23; refine (proper_any _ _).mono ?_; rintro e w1 ⟨rfl, rfl⟩)
      all_goals (refine Txt.DrawPost.mk0 (by rfl) ?_; go_wp2)
      all_goals first
        | (go_ret; exact ⟨ret_bool (validL_false hlt (by unfold okL; simp [*]; try omega)).symm, hbel1.drew⟩)
        | (go_roundw
           case rel =>
             refine ⟨k + 1, by omega, by go_num, hbel1.drew, fun j hj => ?_⟩
             by_cases hjk : j < k
             · exact Hok.out j hjk
             · obtain rfl : j = k := by omega
               unfold okL; simp [*]; try omega
           case measure => simp [intOf]; omega)
    · go_wp2
      go_ret
      exact ⟨ret_bool (validL_true fun j hj => Hok.out j (by omega)).symm, hbel⟩

set_option maxRecDepth 100000 in
set_option maxHeartbeats 1000000 in
theorem rvalid_any (v : Value) (l : List Lt) (w : World) (hl : l.length ≤ 1000000) (h : SlL w v l) :
    Calls Try.prog 16 #[v] w fun e w' => e = .returned (.bool (validL l)) ∧ Below w.heap.size w w' := by
  obtain ⟨a, cap, rfl⟩ := Raw.slice h
  have H := Lib.hid h; clear h
  go_enter Try.func16, Try.ntmps16
  go_wp2
  go_loopw [3] (fun i wr => ∃ k : Nat, k ≤ l.length ∧ i = .int .i64 k ∧ Below w.heap.size w wr ∧ ∀ j, j < k → okL l j = true) (fun i _ => l.length - (intOf i).toNat)
  case atStart => exact ⟨0, Nat.zero_le _, rfl, Below.refl _ _, fun j hj => absurd hj (Nat.not_lt_zero _)⟩
  case round =>
    obtain ⟨k, hk, rfl, hbel, hok⟩ := hrel
    have Hok := Lib.hid hok; clear hok
    have hsz := hbel.size
    by_cases hlt : k < l.length
    · obtain ⟨b, off, rfl, hb, h0, h1⟩ := (H.out.below hbel).elem hlt
      obtain ⟨b', off', e', _, f0, _⟩ := (H.out.below hbel).elem (show k - 1 < l.length by omega)
      cases e'
      go_wp2
      refine Txt.wp_txt (by kernel_rfl) (by kernel_rfl) ?_
      go_wp2
      all_goals (refine Txt.DrawPost.mk0 (by rfl) ?_; go_wp2)
      all_goals first
        | (go_ret; exact ⟨ret_bool (validL_false hlt (by unfold okL propL; simp [*]; try omega)).symm, hbel.drew⟩)
        | (go_roundw
           case rel =>
             refine ⟨k + 1, by omega, by go_num, hbel.drew, fun j hj => ?_⟩
             by_cases hjk : j < k
             · exact Hok.out j hjk
             · obtain rfl : j = k := by omega
               unfold okL propL; simp [*]; try omega
           case measure => simp [intOf]; omega)
    · go_wp2
      go_ret
      exact ⟨ret_bool (validL_true fun j hj => Hok.out j (by omega)).symm, hbel⟩

set_option maxRecDepth 100000 in
set_option maxHeartbeats 1000000 in
theorem seen_any (v : Value) (l : List Lt) (t : Int) (w : World) (hl : l.length ≤ 1000000) (h : SlL w v l) :
    Calls Try.prog 13 #[v, .int .i64 t] w fun e w' => e = .returned (.int .i64 (seenL l t)) ∧ Below w.heap.size w w' := by
  obtain ⟨a, cap, rfl⟩ := Raw.slice h
  have H := Lib.hid h; clear h
  go_enter Try.func13, Try.ntmps13
  go_wp2
  go_loopw [9] (fun i wr => ∃ k : Nat, k ≤ l.length ∧ i = .int .i64 k ∧ Below w.heap.size w wr ∧ ∀ j, j < k → (ltAt l j).t ≠ t) (fun i _ => l.length - (intOf i).toNat)
  case atStart => exact ⟨0, Nat.zero_le _, rfl, Below.refl _ _, fun j hj => absurd hj (Nat.not_lt_zero _)⟩
  case round =>
    obtain ⟨k, hk, rfl, hbel, hok⟩ := hrel
    have Hok := Lib.hid hok; clear hok
    have hsz := hbel.size
    by_cases hlt : k < l.length
    · obtain ⟨b, off, rfl, hb, h0, h1⟩ := (H.out.below hbel).elem hlt
      have hbel1 := hbel.alloc hsz (.cells #[.int .i64 (ltAt l k).t, .int .i64 (ltAt l k).q] 55)
      by_cases he : (ltAt l k).t = t
      · have hq : ((ltAt l k).t == t) = true := by simpa using he
        have Hs := Lib.hid (seen_first hlt Hok.out he)
        clear he
        go_wp2
        go_ret
        exact ⟨ret_int Hs.out.symm, hbel1⟩
      · have hq : ((ltAt l k).t == t) = false := by simpa using he
        have He := Lib.hid he; clear he
        go_wp2
        go_roundw
        case rel => exact ⟨k + 1, by omega, by go_num, hbel1, fun j hj => by
          by_cases hjk : j < k
          · exact Hok.out j hjk
          · obtain rfl : j = k := by omega
            exact He.out⟩
        case measure => simp [intOf]; omega
    · obtain rfl : k = l.length := by omega
      have Hs := Lib.hid (seen_none Hok.out)
      go_wp2
      go_ret
      exact ⟨ret_int Hs.out.symm, hbel⟩

set_option maxRecDepth 100000 in
set_option maxHeartbeats 1000000 in
theorem rseen_any (v : Value) (l : List Lt) (t : Int) (w : World) (hl : l.length ≤ 1000000) (h : SlL w v l) :
    Calls Try.prog 17 #[v, .int .i64 t] w fun e w' => e = .returned (.int .i64 (seenL l t)) ∧ Below w.heap.size w w' := by
  obtain ⟨a, cap, rfl⟩ := Raw.slice h
  have H := Lib.hid h; clear h
  go_enter Try.func17, Try.ntmps17
  go_wp2
  go_loopw [5] (fun i wr => ∃ k : Nat, k ≤ l.length ∧ i = .int .i64 k ∧ Below w.heap.size w wr ∧ ∀ j, j < k → (ltAt l j).t ≠ t) (fun i _ => l.length - (intOf i).toNat)
  case atStart => exact ⟨0, Nat.zero_le _, rfl, Below.refl _ _, fun j hj => absurd hj (Nat.not_lt_zero _)⟩
  case round =>
    obtain ⟨k, hk, rfl, hbel, hok⟩ := hrel
    have Hok := Lib.hid hok; clear hok
    have hsz := hbel.size
    by_cases hlt : k < l.length
    · obtain ⟨b, off, rfl, hb, h0, h1⟩ := (H.out.below hbel).elem hlt
      by_cases he : (ltAt l k).t = t
      · have hq : ((ltAt l k).t == t) = true := by simpa using he
        have Hs := Lib.hid (seen_first hlt Hok.out he)
        clear he
        go_wp2
        go_ret
        exact ⟨ret_int Hs.out.symm, hbel⟩
      · have hq : ((ltAt l k).t == t) = false := by simpa using he
        have He := Lib.hid he; clear he
        go_wp2
        go_roundw
        case rel => exact ⟨k + 1, by omega, by go_num, hbel, fun j hj => by
          by_cases hjk : j < k
          · exact Hok.out j hjk
          · obtain rfl : j = k := by omega
            exact He.out⟩
        case measure => simp [intOf]; omega
    · obtain rfl : k = l.length := by omega
      have Hs := Lib.hid (seen_none Hok.out)
      go_wp2
      go_ret
      exact ⟨ret_int Hs.out.symm, hbel⟩

def cmpI (x y : Int) : Int := if x < y then -1 else if y < x then 1 else 0
set_option maxHeartbeats 400000 in
theorem isNaN_any (x : Int) (w : World) : Calls Try.prog 40 #[.int .i64 x] w fun e w' => e = .returned (.bool false) ∧ w = w' := by
  go_enter Try.func40, Try.ntmps40
  go_wp2
  go_ret
  exact ⟨rfl, rfl⟩
set_option maxHeartbeats 400000 in
theorem compare_any (x y : Int) (w : World) : Calls Try.prog 27 #[.int .i64 x, .int .i64 y] w fun e w' => e = .returned (.int .i64 (cmpI x y)) ∧ w = w' := by
  rcases Int.lt_trichotomy x y with h | h | h
  · have e : cmpI x y = -1 := by simp [cmpI, h]
    rw [e]; clear e
    go_enter Try.func27, Try.ntmps27
    go_wp2_with (go_at_call 40; refine (isNaN_any _ _).mono ?_; rintro e w' ⟨rfl, rfl⟩)
    go_ret
    exact ⟨rfl, rfl⟩
  · subst h
    have e : cmpI x x = 0 := by simp [cmpI]
    rw [e]; clear e
    go_enter Try.func27, Try.ntmps27
    go_wp2_with (go_at_call 40; refine (isNaN_any _ _).mono ?_; rintro e w' ⟨rfl, rfl⟩)
    go_ret
    exact ⟨rfl, rfl⟩
  · have e : cmpI x y = 1 := by have : ¬ x < y := by omega
                                simp [cmpI, h, this]
    rw [e]; clear e
    have h' : ¬ x < y := by omega
    go_enter Try.func27, Try.ntmps27
    go_wp2_with (go_at_call 40; refine (isNaN_any _ _).mono ?_; rintro e w' ⟨rfl, rfl⟩)
    go_ret
    exact ⟨rfl, rfl⟩
set_option maxHeartbeats 400000 in
theorem see1_any (x y t : Int) (w : World) : Calls Try.prog 26 #[.agg #[.int .i64 x, .int .i64 y], .int .i64 t] w fun e w' => e = .returned (.int .i64 (cmpI x t)) ∧ Below w.heap.size w w' := by
  go_enter Try.func26, Try.ntmps26
  go_wp2_with (go_at_call 27; refine (compare_any _ _ _).mono ?_; rintro e w' ⟨rfl, rfl⟩)
  go_ret
  exact ⟨rfl, (Below.refl _ _).alloc (Nat.le_refl _) _⟩
end Go.Proofs.Ytjlfpofgiicmcaa
