/- Revive: silence: masks of components -/
import Derived.Test.YthmnhpakgjnngaaDoorVn
import Derived.Laws.BitsAllLaws
namespace Go.Rv
open Go Go.RowKit Go.Bs Go.Cl Go.Rw Go.Dt
theorem bit16_yes {x t : Nat} (hx : x < 65536) (h : x.testBit t = true) : bits .and .u16 ((x : Int) / 2 ^ t) 1 = 1 := by
  rw [show ((x : Int) / 2 ^ t) = ((x / 2 ^ t : Nat) : Int) by simp, show (1 : Int) = ((1 : Nat) : Int) from rfl, u16_and_nat _ _ (Nat.lt_of_le_of_lt (Nat.div_le_self _ _) hx) (by omega)]
  rw [Nat.and_one_is_mod]
  have := Nat.testBit_eq_decide_div_mod_eq (x := x) (i := t)
  rw [h] at this
  have h1 : x / 2 ^ t % 2 = 1 := by simpa using this.symm
  rw [h1]
theorem bit16_no {x t : Nat} (hx : x < 65536) (h : x.testBit t = false) : bits .and .u16 ((x : Int) / 2 ^ t) 1 = 0 := by
  rw [show ((x : Int) / 2 ^ t) = ((x / 2 ^ t : Nat) : Int) by simp, show (1 : Int) = ((1 : Nat) : Int) from rfl, u16_and_nat _ _ (Nat.lt_of_le_of_lt (Nat.div_le_self _ _) hx) (by omega)]
  rw [Nat.and_one_is_mod]
  have := Nat.testBit_eq_decide_div_mod_eq (x := x) (i := t)
  rw [h] at this
  have h1 : ¬ x / 2 ^ t % 2 = 1 := by simpa using this.symm
  have h2 : x / 2 ^ t % 2 = 0 := by omega
  rw [h2]; rfl
theorem or16_bits {b t : Nat} (hb : b < 65536) (ht : t < 16) : bits .or .u16 (b : Int) (IntKind.u16.wrap (1 * 2 ^ t)) = ((b ||| 2 ^ t : Nat) : Int) := by
  have h2 : (2 : Nat) ^ t < 65536 := by
    have := Nat.pow_lt_pow_right (a := 2) (by omega) ht
    omega
  have e : IntKind.u16.wrap (1 * (2 : Int) ^ t) = ((2 ^ t : Nat) : Int) := by
    rw [IntKind.wrap_u16, Int.one_mul, show (2 : Int) ^ t = ((2 ^ t : Nat) : Int) by simp]
    generalize 2 ^ t = z at h2 ⊢
    omega
  rw [e, u16_or_nat _ _ hb h2]
theorem or16_lt {b t : Nat} (hb : b < 65536) (ht : t < 16) : b ||| 2 ^ t < 65536 := by
  have h2 : (2 : Nat) ^ t < 2 ^ 16 := Nat.pow_lt_pow_right (by omega) ht
  exact Nat.or_lt_two_pow (n := 16) (by omega) h2
theorem or16_bit {b t s : Nat} : (b ||| 2 ^ t).testBit s = (b.testBit s || decide (t = s)) := by
  rw [Nat.testBit_or, Nat.testBit_two_pow]
/-- the tasks of a mask from 2 on, k of them looked at -/
def mkTo (x k : Nat) : List Int := ((List.range k).filter fun j => x.testBit (j + 2)).map fun j : Nat => (j : Int) + 2
theorem mkTo_yes {x k : Nat} (h : x.testBit (k + 2) = true) : mkTo x (k + 1) = mkTo x k ++ [(k : Int) + 2] := by simp [mkTo, List.range_succ, List.filter_append, h]
theorem mkTo_no {x k : Nat} (h : x.testBit (k + 2) = false) : mkTo x (k + 1) = mkTo x k := by simp [mkTo, List.range_succ, List.filter_append, h]
theorem mkTo_congr {x y k : Nat} (h : ∀ j, j < k → x.testBit (j + 2) = y.testBit (j + 2)) : mkTo x k = mkTo y k := by
  unfold mkTo
  congr 1
  exact List.filter_congr fun j hj => h j (List.mem_range.1 hj)
theorem mkTo_lt {x k : Nat} : ∀ u ∈ mkTo x k, u < (k : Int) + 2 := by
  intro u hu
  obtain ⟨j, hj, rfl⟩ := List.mem_map.1 hu
  have := List.mem_range.1 (List.mem_filter.1 hj).1
  omega
theorem mkTo_zero (k : Nat) : mkTo 0 k = [] := by simp [mkTo]
theorem mkTo_prefix (x : Nat) {k n : Nat} (h : k ≤ n) : ∃ r, mkTo x n = mkTo x k ++ r := by
  induction n with
  | zero => obtain rfl : k = 0 := by omega
            exact ⟨[], by simp⟩
  | succ n ih =>
    by_cases e : k = n + 1
    · subst e; exact ⟨[], by simp⟩
    · obtain ⟨r, hr⟩ := ih (by omega)
      by_cases hb : x.testBit (n + 2) = true
      · exact ⟨r ++ [(n : Int) + 2], by rw [mkTo_yes hb, hr, List.append_assoc]⟩
      · exact ⟨r, by rw [mkTo_no (by simpa using hb), hr]⟩
theorem mkTo_at {x k : Nat} (hk : k < 9) (h : x.testBit (k + 2) = true) : (mkTo x 9)[(mkTo x k).length]? = some ((k : Int) + 2) := by
  obtain ⟨r, hr⟩ := mkTo_prefix x (show k + 1 ≤ 9 by omega)
  rw [hr, mkTo_yes h]
  simp
theorem mkTo_len (x k : Nat) : (mkTo x k).length ≤ k := by
  unfold mkTo
  rw [List.length_map]
  exact Nat.le_trans (List.length_filter_le _ _) (by simp)
/-- who is waited for, k of them looked at: the mask's, then all others -/
def wtP (x k : Nat) : List Int := mkTo x k ++ (List.range' k (9 - k)).map fun j : Nat => (j : Int) + 2
theorem wtP_zero : wtP 0 0 = comps := by decide
theorem wtP_nine (x : Nat) : wtP x 9 = mkTo x 9 := by simp [wtP]
theorem range_cut {k : Nat} (hk : k < 9) : List.range' k (9 - k) = k :: List.range' (k + 1) (9 - (k + 1)) := by
  rw [show 9 - k = (9 - (k + 1)) + 1 by omega, List.range'_succ]
theorem wtP_mem {x k : Nat} (hk : k < 9) : (k : Int) + 2 ∈ wtP x k := by
  unfold wtP
  rw [range_cut hk]
  simp
theorem wtP_no {x k : Nat} (hk : k < 9) (hx : ∀ j, j ≥ k + 2 → x.testBit j = false) : less (wtP x k) ((k : Int) + 2) = wtP x (k + 1) := by
  unfold wtP less
  rw [range_cut hk, mkTo_no (hx _ (Nat.le_refl _)), List.filter_append, List.map_cons, List.filter_cons_of_neg (by simp)]
  congr 1
  · refine List.filter_eq_self.2 fun u hu => ?_
    have := mkTo_lt u hu
    simp; omega
  · refine List.filter_eq_self.2 fun u hu => ?_
    obtain ⟨j, hj, rfl⟩ := List.mem_map.1 hu
    have := List.mem_range'_1.1 hj
    simp; omega
theorem wtP_yes {x k : Nat} (hk : k < 9) (hx : ∀ j, j ≥ k + 2 → x.testBit j = false) : wtP x k = wtP (x ||| 2 ^ (k + 2)) (k + 1) := by
  have e1 : mkTo (x ||| 2 ^ (k + 2)) (k + 1) = mkTo x k ++ [(k : Int) + 2] := by
    rw [mkTo_yes (by rw [or16_bit]; simp)]
    congr 1
    refine mkTo_congr fun j hj => ?_
    rw [or16_bit]
    have : ¬ k = j := by omega
    simp [this]
  unfold wtP
  rw [e1, range_cut hk]
  simp
theorem or16_high {x k : Nat} (hx : ∀ j, j ≥ k + 2 → x.testBit j = false) : ∀ j, j ≥ k + 1 + 2 → (x ||| 2 ^ (k + 2)).testBit j = false := by
  intro j hj
  rw [or16_bit, hx j (by omega)]
  have : ¬ k + 2 = j := by omega
  simp [this]
/-- the effects of a silent round -/
def silE (x : Nat) (r : Int) : List Ef := (mkTo x 9).map (fun t => rstE t 1) ++ (comps.map (pingE r) ++ [timE])
theorem silE_rst {x k : Nat} (r : Int) (hk : k < 9) (h : x.testBit (k + 2) = true) : (silE x r)[(mkTo x k).length]? = some (rstE ((k : Int) + 2) 1) := by
  have h1 := mkTo_at hk h
  unfold silE
  rw [List.getElem?_append_left (by rw [List.length_map]; exact (List.getElem?_eq_some_iff.1 h1).1), List.getElem?_map, h1]
  rfl
theorem comps_at {k : Nat} (hk : k < 9) : comps[k]? = some ((k : Int) + 2) := by
  have : ∀ k : Fin 9, comps[k.val]? = some ((k.val : Int) + 2) := by decide
  exact this ⟨k, hk⟩
theorem silE_ping {x k : Nat} (r : Int) (hk : k < 9) : (silE x r)[(mkTo x 9).length + k]? = some (pingE r ((k : Int) + 2)) := by
  unfold silE
  rw [List.getElem?_append_right (by rw [List.length_map]; omega), List.length_map, Nat.add_sub_cancel_left, List.getElem?_append_left (by rw [List.length_map]; exact hk), List.getElem?_map, comps_at hk]
  rfl
theorem silE_tim {x : Nat} (r : Int) : (silE x r)[(mkTo x 9).length + 9]? = some timE := by
  unfold silE
  rw [List.getElem?_append_right (by rw [List.length_map]; omega), List.length_map, Nat.add_sub_cancel_left]
  rfl
theorem silE_len (x : Nat) (r : Int) : (silE x r).length = (mkTo x 9).length + 10 := by
  unfold silE
  simp [comps]
theorem perm_pong : ∀ t : Fin 9, ∀ r : Fin 20, permP ⟨2 + (t.val : Int), 1, 7, 1, 1 + (r.val : Int), 0, 0, 0⟩ 0 = true := by decide +kernel
end Go.Rv
namespace Go.Proofs.YthmnhpakgjnngaaDoor
open Go.RowKit Go.Bs Go.Cl Go.Rw Go.Dt Go.Rv
/-- an alarm of a silent server -/
theorem handle_alarm {x : Sv} {i M : Nat} (hi : i < 20) (hok : VOk x) (hr : x.r = i) (hw : x.wt = mkTo M 9) : ∃ hs', handleV x ⟨0, 1, 4, 1, 1, 64, 0, 0⟩ 0 = some (⟨(i : Int) + 1, comps, hs'⟩, silE M ((i : Int) + 1)) ∧ VOk ⟨(i : Int) + 1, comps, hs'⟩ := by
  have hlt : x.r < 1000000000 := by omega
  have e : alarmV x = (⟨(i : Int) + 1, comps, x.wt.foldl (fun h t => failH h t 7) x.hs⟩, silE M ((i : Int) + 1)) := by
    unfold alarmV silE
    rw [if_pos hlt, hr, hw]
  refine ⟨x.wt.foldl (fun h t => failH h t 7) x.hs, ?_, by have := alarm_ok hok; rw [e] at this; exact this⟩
  unfold handleV
  rw [if_pos (by decide +kernel)]
  simp only [e]
  rfl
theorem pong_ok2 {x : Sv} {i k M : Nat} (hok : VOk x) (hk : k < 9) (hr : x.r = (i : Int) + 1) (hw : x.wt = wtP M k) (hx : ∀ j, j ≥ k + 2 → M.testBit j = false) : VOk { x with wt := wtP M (k + 1) } := by
  have := pong_ok' hok ((k : Int) + 2) ((i : Int) + 1)
  unfold pongV at this
  rwa [if_pos ⟨by rw [hw]; exact wtP_mem hk, hr.symm⟩, hw, wtP_no hk hx] at this
theorem handle_pong {x : Sv} {i k M : Nat} (hi : i < 20) (hk : k < 9) (hr : x.r = (i : Int) + 1) (hw : x.wt = wtP M k) (hx : ∀ j, j ≥ k + 2 → M.testBit j = false) :
    handleV x ⟨(k : Int) + 2, 1, 7, 1, (i : Int) + 1, 0, 0, 0⟩ 0 = some ({ x with wt := wtP M (k + 1) }, []) := by
  have hp := perm_pong ⟨k, hk⟩ ⟨i, hi⟩
  dsimp only at hp
  rw [Int.add_comm 2, Int.add_comm 1] at hp
  unfold handleV
  rw [if_pos (by rw [hp]; rfl)]
  dsimp only
  rw [if_neg (by decide), if_neg (by decide), if_pos (by decide)]
  unfold pongV
  rw [if_pos ⟨by rw [hw]; exact wtP_mem hk, hr.symm⟩, hw, wtP_no hk hx]
end Go.Proofs.YthmnhpakgjnngaaDoor
