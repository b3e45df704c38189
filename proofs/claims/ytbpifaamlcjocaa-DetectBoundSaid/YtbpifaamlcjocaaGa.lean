/- attempt: Count, Cost, Normal, the tests of Judge -/
import Derived.Test.YtbpifaamlcjocaaFe
namespace Go.Fa
open Go Go.RowKit Go.Bs Go.Cl Go.Rw
def cnt (n : Int) : Int := if n ≤ 0 then 0 else (n - 1) / 128 + 1
def cost (n m k : Int) : Int := cnt n + cnt m + 2 + (if k ≤ 0 then 0 else k)
theorem cnt_lo (n : Int) : 0 ≤ cnt n := by unfold cnt; split <;> omega
theorem cnt_hi (n : Int) (h : n ≤ 9223372036854775807) : cnt n ≤ 72057594037927936 := by unfold cnt; split <;> omega
def Oc.bad (o : Oc) : Bool := decide (o.en = 1) || (decide (o.en = 0) && !decide (o.er = 0))
def Oc.late (o : Oc) : Bool := decide (o.en = 2) || (decide (o.en = 0) && decide (4000 < o.st))
def Oc.touch (o : Oc) : Bool := decide (o.en = 3)
def judge (a b : Oc) (p : Bool) : Int :=
  if (a.bad || b.bad) = true then 1 else if (a.late || b.late) = true then 2 else if (a.touch || b.touch) = true then 3 else if p = false then 4 else if a.im = b.im ∧ a.ef = b.ef then 0 else 5
/-- the steps of a judgement -/
def jst (a b : Oc) : Int := wrap64 (wrap64 (a.st + b.st) + 1)
theorem str_eq {a b : List UInt8} (h : a = b) : ((strOf a).toList == (strOf b).toList) = true := by subst h; simp
theorem str_ne {a b : List UInt8} (h : ¬ a = b) : ((strOf a).toList == (strOf b).toList) = false := by
  rw [beq_eq_false_iff_ne, ByteArray.toList_eq, ByteArray.toList_eq]
  intro e
  exact h (by simpa [strOf] using e)
end Go.Fa
namespace Go.Proofs.Ytbpifaamlcjocaa
open Go.RowKit Go.Bs Go.Cl Go.Rw Go.Un Go.Im Go.Fa
set_option maxHeartbeats 1000000 in
theorem acount_any (n : Int) (h1 : -9223372036854775808 ≤ n) (h2 : n ≤ 9223372036854775807) (w : World) : Calls Try.prog 22 #[.int .i64 n] w fun e w' => e = .returned (.int .i64 (cnt n)) ∧ w = w' := by
  by_cases h : n ≤ 0
  · go_enter Try.func22, Try.ntmps22
    go_wp2
    go_ret
    exact ⟨ret_int (by unfold cnt; rw [if_pos h]), rfl⟩
  · have h3 : 0 ≤ n - 1 := by omega
    go_enter Try.func22, Try.ntmps22
    go_wp2
    go_ret
    exact ⟨ret_int (by unfold cnt; rw [if_neg (by omega)]), rfl⟩
set_option maxHeartbeats 1000000 in
theorem acost_any (n m k : Int) (h1 : -9223372036854775808 ≤ n) (h2 : n ≤ 9223372036854775807) (h3 : -9223372036854775808 ≤ m) (h4 : m ≤ 9223372036854775807) (h5 : k ≤ 1099511627776) (w : World) :
    Calls Try.prog 35 #[.int .i64 n, .int .i64 m, .int .i64 k] w fun e w' => e = .returned (.int .i64 (cost n m k)) ∧ w = w' := by
  go_enter Try.func35, Try.ntmps35
  go_wp2_with fail
  refine (acount_any n h1 h2 _).mono ?_
  rintro e w1 ⟨rfl, rfl⟩
  go_wp2_with fail
  refine (acount_any m h3 h4 _).mono ?_
  rintro e w1 ⟨rfl, rfl⟩
  have a1 := cnt_lo n
  have a2 := cnt_lo m
  have a3 := cnt_hi n h2
  have a4 := cnt_hi m h4
  have hc : cost n m k = cnt n + cnt m + 2 + (if k ≤ 0 then 0 else k) := rfl
  generalize cnt n = x at a1 a3 hc
  generalize cnt m = y at a2 a4 hc
  have HC := Lib.hid hc
  clear hc
  by_cases hk : k ≤ 0
  · have hk0 : max 0 k = 0 := by omega
    go_wp2
    go_ret
    exact ⟨ret_int (by rw [HC.out, if_pos hk]; try omega), rfl⟩
  · have hk0 : max 0 k = k := by omega
    go_wp2
    go_ret
    exact ⟨ret_int (by rw [HC.out, if_neg (by omega)]; try omega), rfl⟩
set_option maxRecDepth 100000 in
set_option maxHeartbeats 1000000 in
theorem bequal_any (F : List Nat) (a b : List UInt8) (v1 v2 : Value) (w : World) (h1 : Bytes F w v1 a) (h2 : Bytes F w v2 b) : Calls Try.prog 44 #[v1, v2] w fun e w' => e = .returned (.bool (decide (a = b))) ∧ w = w' := by
  obtain ⟨a1, c1, rfl⟩ := Raw.slice h1
  obtain ⟨a2, c2, rfl⟩ := Raw.slice h2
  have s1 := run_str (P := Try.prog) h1 44 5 9 Try.underlying44 Try.underlying5 Try.underlying9
  have s2 := run_str (P := Try.prog) h2 44 5 9 Try.underlying44 Try.underlying5 Try.underlying9
  by_cases h : a = b
  · subst h
    have he := str_eq (rfl : a = a)
    go_enter Try.func44, Try.ntmps44
    go_wp2
    go_ret
    exact ⟨ret_bool (by simp), rfl⟩
  · have he := str_ne h
    go_enter Try.func44, Try.ntmps44
    go_wp2
    go_ret
    exact ⟨ret_bool (by rw [decide_eq_false h]; try exact he), rfl⟩
set_option maxRecDepth 100000 in
set_option maxHeartbeats 1000000 in
theorem bad_any (o : Oc) (iv ev : Value) (w : World) : Calls Try.prog 41 #[.agg #[.int .i64 o.en, .int .i64 o.st, .int .i64 o.er, iv, ev]] w fun e w' => e = .returned (.bool (o.bad)) ∧ Below w.heap.size w w' := by
  obtain ⟨en, st, er, im, ef⟩ := o
  simp only
  by_cases h1 : en = 1
  · subst h1
    go_enter Try.func41, Try.ntmps41
    go_wp2
    go_ret
    exact ⟨ret_bool (by simp [Oc.bad]), (Below.refl _ w).alloc (Nat.le_refl _) _⟩
  · by_cases h0 : en = 0
    · subst h0
      by_cases hr : er = 0
      · subst hr
        go_enter Try.func41, Try.ntmps41
        go_wp2
        go_ret
        exact ⟨ret_bool (by simp [Oc.bad]), (Below.refl _ w).alloc (Nat.le_refl _) _⟩
      · have hb : (er != 0) = true := by simpa using hr
        go_enter Try.func41, Try.ntmps41
        go_wp2
        go_ret
        exact ⟨ret_bool (by simp [Oc.bad, hr]), (Below.refl _ w).alloc (Nat.le_refl _) _⟩
    · have e0 : (en == 0) = false := by simpa using h0
      have e1 : (en == 1) = false := by simpa using h1
      go_enter Try.func41, Try.ntmps41
      go_wp2
      go_ret
      exact ⟨ret_bool (by simp [Oc.bad, h0, h1]), (Below.refl _ w).alloc (Nat.le_refl _) _⟩
set_option maxRecDepth 100000 in
set_option maxHeartbeats 1000000 in
theorem late_any (o : Oc) (iv ev : Value) (w : World) : Calls Try.prog 42 #[.agg #[.int .i64 o.en, .int .i64 o.st, .int .i64 o.er, iv, ev]] w fun e w' => e = .returned (.bool (o.late)) ∧ Below w.heap.size w w' := by
  obtain ⟨en, st, er, im, ef⟩ := o
  simp only
  by_cases h1 : en = 2
  · subst h1
    go_enter Try.func42, Try.ntmps42
    go_wp2
    go_ret
    exact ⟨ret_bool (by simp [Oc.late]), (Below.refl _ w).alloc (Nat.le_refl _) _⟩
  · by_cases h0 : en = 0
    · subst h0
      by_cases hr : 4000 < st
      · go_enter Try.func42, Try.ntmps42
        go_wp2
        go_ret
        exact ⟨ret_bool (by simp [Oc.late, hr]), (Below.refl _ w).alloc (Nat.le_refl _) _⟩
      · go_enter Try.func42, Try.ntmps42
        go_wp2
        go_ret
        exact ⟨ret_bool (by simp [Oc.late]; omega), (Below.refl _ w).alloc (Nat.le_refl _) _⟩
    · have e0 : (en == 0) = false := by simpa using h0
      have e1 : (en == 2) = false := by simpa using h1
      go_enter Try.func42, Try.ntmps42
      go_wp2
      go_ret
      exact ⟨ret_bool (by simp [Oc.late, h0, h1]), (Below.refl _ w).alloc (Nat.le_refl _) _⟩
set_option maxRecDepth 100000 in
set_option maxHeartbeats 1000000 in
theorem touch_any (o : Oc) (iv ev : Value) (w : World) : Calls Try.prog 43 #[.agg #[.int .i64 o.en, .int .i64 o.st, .int .i64 o.er, iv, ev]] w fun e w' => e = .returned (.bool (o.touch)) ∧ Below w.heap.size w w' := by
  obtain ⟨en, st, er, im, ef⟩ := o
  simp only
  by_cases h1 : en = 3
  · subst h1
    go_enter Try.func43, Try.ntmps43
    go_wp2
    go_ret
    exact ⟨ret_bool (by simp [Oc.touch]), (Below.refl _ w).alloc (Nat.le_refl _) _⟩
  · have e1 : (en == 3) = false := by simpa using h1
    go_enter Try.func43, Try.ntmps43
    go_wp2
    go_ret
    exact ⟨ret_bool (by simp [Oc.touch, h1]), (Below.refl _ w).alloc (Nat.le_refl _) _⟩
set_option maxRecDepth 100000 in
set_option maxHeartbeats 2000000 in
theorem one_bad (A B : Nat) (a b : Oc) (i1 e1 i2 e2 : Value) (w : World) (hA : w.heap[A]? = some (.cells #[.int .i64 a.en, .int .i64 a.st, .int .i64 a.er, i1, e1] 49 (0, 0))) (hB : w.heap[B]? = some (.cells #[.int .i64 b.en, .int .i64 b.st, .int .i64 b.er, i2, e2] 49 (0, 0))) :
    Calls Try.prog 40 #[.func (.func 41) #[] #[], .pointer (some ⟨A, 0, none⟩), .pointer (some ⟨B, 0, none⟩)] w fun e w' => e = .returned (.bool (a.bad || b.bad)) ∧ Below w.heap.size w w' := by
  have hAl : A < w.heap.size := (Array.getElem?_eq_some_iff.1 hA).1
  have hBl : B < w.heap.size := (Array.getElem?_eq_some_iff.1 hB).1
  have HB := Lib.hid hB
  have a0 := box_at hA (j := 0) rfl
  have a1 := box_at hA (j := 1) rfl
  have a2 := box_at hA (j := 2) rfl
  have a3 := box_at hA (j := 3) rfl
  have a4 := box_at hA (j := 4) rfl
  clear hA hB
  go_enter Try.func40, Try.ntmps40
  go_wp2_with fail
  refine (bad_any a i1 e1 _).mono ?_
  rintro e w1 ⟨rfl, hb1⟩
  have HB1 := Lib.hid hb1
  have hbb := (hb1.block B hBl).trans HB.out
  clear hb1 a0 a1 a2 a3 a4
  have b0 := box_at hbb (j := 0) rfl
  have b1 := box_at hbb (j := 1) rfl
  have b2 := box_at hbb (j := 2) rfl
  have b3 := box_at hbb (j := 3) rfl
  have b4 := box_at hbb (j := 4) rfl
  clear hbb
  cases hga : a.bad
  · go_wp2_with fail
    refine (bad_any b i2 e2 _).mono ?_
    rintro e w2 ⟨rfl, hb2⟩
    have HB2 := Lib.hid (HB1.out.trans (hb2.mono HB1.out.size))
    clear hb2
    go_wp2
    go_ret
    exact ⟨ret_bool (by simp [hga]), HB2.out⟩
  · go_wp2
    go_ret
    exact ⟨ret_bool (by simp [hga]), HB1.out⟩
set_option maxRecDepth 100000 in
set_option maxHeartbeats 2000000 in
theorem one_late (A B : Nat) (a b : Oc) (i1 e1 i2 e2 : Value) (w : World) (hA : w.heap[A]? = some (.cells #[.int .i64 a.en, .int .i64 a.st, .int .i64 a.er, i1, e1] 49 (0, 0))) (hB : w.heap[B]? = some (.cells #[.int .i64 b.en, .int .i64 b.st, .int .i64 b.er, i2, e2] 49 (0, 0))) :
    Calls Try.prog 40 #[.func (.func 42) #[] #[], .pointer (some ⟨A, 0, none⟩), .pointer (some ⟨B, 0, none⟩)] w fun e w' => e = .returned (.bool (a.late || b.late)) ∧ Below w.heap.size w w' := by
  have hAl : A < w.heap.size := (Array.getElem?_eq_some_iff.1 hA).1
  have hBl : B < w.heap.size := (Array.getElem?_eq_some_iff.1 hB).1
  have HB := Lib.hid hB
  have a0 := box_at hA (j := 0) rfl
  have a1 := box_at hA (j := 1) rfl
  have a2 := box_at hA (j := 2) rfl
  have a3 := box_at hA (j := 3) rfl
  have a4 := box_at hA (j := 4) rfl
  clear hA hB
  go_enter Try.func40, Try.ntmps40
  go_wp2_with fail
  refine (late_any a i1 e1 _).mono ?_
  rintro e w1 ⟨rfl, hb1⟩
  have HB1 := Lib.hid hb1
  have hbb := (hb1.block B hBl).trans HB.out
  clear hb1 a0 a1 a2 a3 a4
  have b0 := box_at hbb (j := 0) rfl
  have b1 := box_at hbb (j := 1) rfl
  have b2 := box_at hbb (j := 2) rfl
  have b3 := box_at hbb (j := 3) rfl
  have b4 := box_at hbb (j := 4) rfl
  clear hbb
  cases hga : a.late
  · go_wp2_with fail
    refine (late_any b i2 e2 _).mono ?_
    rintro e w2 ⟨rfl, hb2⟩
    have HB2 := Lib.hid (HB1.out.trans (hb2.mono HB1.out.size))
    clear hb2
    go_wp2
    go_ret
    exact ⟨ret_bool (by simp [hga]), HB2.out⟩
  · go_wp2
    go_ret
    exact ⟨ret_bool (by simp [hga]), HB1.out⟩
set_option maxRecDepth 100000 in
set_option maxHeartbeats 2000000 in
theorem one_touch (A B : Nat) (a b : Oc) (i1 e1 i2 e2 : Value) (w : World) (hA : w.heap[A]? = some (.cells #[.int .i64 a.en, .int .i64 a.st, .int .i64 a.er, i1, e1] 49 (0, 0))) (hB : w.heap[B]? = some (.cells #[.int .i64 b.en, .int .i64 b.st, .int .i64 b.er, i2, e2] 49 (0, 0))) :
    Calls Try.prog 40 #[.func (.func 43) #[] #[], .pointer (some ⟨A, 0, none⟩), .pointer (some ⟨B, 0, none⟩)] w fun e w' => e = .returned (.bool (a.touch || b.touch)) ∧ Below w.heap.size w w' := by
  have hAl : A < w.heap.size := (Array.getElem?_eq_some_iff.1 hA).1
  have hBl : B < w.heap.size := (Array.getElem?_eq_some_iff.1 hB).1
  have HB := Lib.hid hB
  have a0 := box_at hA (j := 0) rfl
  have a1 := box_at hA (j := 1) rfl
  have a2 := box_at hA (j := 2) rfl
  have a3 := box_at hA (j := 3) rfl
  have a4 := box_at hA (j := 4) rfl
  clear hA hB
  go_enter Try.func40, Try.ntmps40
  go_wp2_with fail
  refine (touch_any a i1 e1 _).mono ?_
  rintro e w1 ⟨rfl, hb1⟩
  have HB1 := Lib.hid hb1
  have hbb := (hb1.block B hBl).trans HB.out
  clear hb1 a0 a1 a2 a3 a4
  have b0 := box_at hbb (j := 0) rfl
  have b1 := box_at hbb (j := 1) rfl
  have b2 := box_at hbb (j := 2) rfl
  have b3 := box_at hbb (j := 3) rfl
  have b4 := box_at hbb (j := 4) rfl
  clear hbb
  cases hga : a.touch
  · go_wp2_with fail
    refine (touch_any b i2 e2 _).mono ?_
    rintro e w2 ⟨rfl, hb2⟩
    have HB2 := Lib.hid (HB1.out.trans (hb2.mono HB1.out.size))
    clear hb2
    go_wp2
    go_ret
    exact ⟨ret_bool (by simp [hga]), HB2.out⟩
  · go_wp2
    go_ret
    exact ⟨ret_bool (by simp [hga]), HB1.out⟩
end Go.Proofs.Ytbpifaamlcjocaa
