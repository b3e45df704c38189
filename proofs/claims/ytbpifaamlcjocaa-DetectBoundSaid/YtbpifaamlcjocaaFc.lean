/- fault: Valid, any plan -/
import Derived.Test.YtbpifaamlcjocaaFb
namespace Go.Fa
open Go
/-- a valid plan -/
def FP.ok (p : FP) : Bool :=
  if p.k = 0 then decide (p.c = 0) && (decide (p.n = 0) && (decide (p.e = 0) && (decide (p.s = 0) && (decide (p.pl = 0) && decide (p.m = 0)))))
  else inR p.c 1 10 && inR p.n 1 1000000 && inR p.k 1 9 &&
    (if p.k ≤ 3 then inR p.e 0 1 && inR p.s 0 4000 && (decide (p.pl = 0) && decide (p.m = 0))
     else if p.k ≤ 7 then inR p.e 0 1 && inR p.pl 0 24000 && inR p.m 1 255 && decide (p.s = 0)
     else if p.k = 8 then inR p.s 0 4000 && (decide (p.e = 0) && (decide (p.pl = 0) && decide (p.m = 0)))
     else decide (p.e = 0) && (decide (p.s = 0) && (decide (p.pl = 0) && decide (p.m = 0))))
end Go.Fa
namespace Go.Proofs.Ytbpifaamlcjocaa
open Go.RowKit Go.Bs Go.Cl Go.Rw Go.Un Go.Im Go.Fa
set_option maxRecDepth 100000 in
set_option maxHeartbeats 4000000 in
theorem valid0 (p : FP) (h : p.k = 0) (w : World) :
    Calls Try.prog 38 #[.agg p.cs] w fun e w' => e = .returned (.bool p.ok) ∧ Below w.heap.size w w' := by
  obtain ⟨c, n, e, k, s, pl, m⟩ := p
  simp only [FP.cs, FP.ok] at *
  subst h
  go_enter Try.func38, Try.ntmps38
  go_wp2
  all_goals
    go_ret
    refine ⟨rfl, ?_⟩
    first
      | exact (Below.refl _ w).alloc (Nat.le_refl _) _
      | trace_state
set_option maxRecDepth 100000 in
set_option maxHeartbeats 4000000 in
theorem valid9 (p : FP) (h1 : p.k = 9) (hc1 : inR p.c 1 10 = true) (hc2 : inR p.n 1 1000000 = true) (w : World) :
    Calls Try.prog 38 #[.agg p.cs] w fun e w' => e = .returned (.bool (decide (p.e = 0) && (decide (p.s = 0) && (decide (p.pl = 0) && decide (p.m = 0))))) ∧ Below w.heap.size w w' := by
  have hk : inR p.k 1 9 = true := by unfold inR; simp; omega
  have hk0 : (p.k == 0) = false := by simp; omega
  obtain ⟨c, n, e, k, s, pl, m⟩ := p
  simp only [FP.cs] at *
  have h1a : 9 ≤ k := by omega
  have h1b : k ≤ 9 := by omega
  clear h1
  go_enter Try.func38, Try.ntmps38
  have HW : Hid (∀ a l m w', Calls Try.prog 48 #[.int .i64 a, .int .i64 l, .int .i64 m] w' fun e w'' => e = .returned (.bool (inR a l m)) ∧ w' = w'') := Lib.hid (fun a l m w' => within_any a l m w')
  go_wp2_with fail
  refine (HW.out _ _ _ _).mono ?_
  rw [hc1]
  rintro e' w' ⟨rfl, rfl⟩
  go_wp2_with fail
  refine (HW.out _ _ _ _).mono ?_
  rw [hc2]
  rintro e' w' ⟨rfl, rfl⟩
  go_wp2_with fail
  refine (HW.out _ _ _ _).mono ?_
  rw [hk]
  rintro e' w' ⟨rfl, rfl⟩
  obtain ⟨u, hu⟩ : ∃ u, u = (w.alloc (.cells #[.int .i64 c, .int .i64 n, .int .i64 e, .int .i64 k, .int .i64 s, .int .i64 pl, .int .i64 m] 52)).alloc (.cells #[.int .i64 c, .int .i64 n, .int .i64 0, .int .i64 k, .int .i64 0, .int .i64 0, .int .i64 0] 52) := ⟨_, rfl⟩
  go_upto_region 6 with (fail)
  rw [← hu]
  obtain ⟨P, hP⟩ : ∃ P, P = w.heap.size := ⟨_, rfl⟩
  obtain ⟨T, hT⟩ : ∃ T, T = w.heap.size + 1 := ⟨_, rfl⟩
  have HPu : Hid (u.heap[P]? = some (.cells #[.int .i64 c, .int .i64 n, .int .i64 e, .int .i64 k, .int .i64 s, .int .i64 pl, .int .i64 m] 52 (0, 0))) := Lib.hid (by rw [hu, hP]; exact a2_0 w _ _)
  have HTu : Hid (u.heap[T]? = some (.cells #[.int .i64 c, .int .i64 n, .int .i64 0, .int .i64 k, .int .i64 0, .int .i64 0, .int .i64 0] 52 (0, 0))) := Lib.hid (by rw [hu, hT]; exact a2_1 w _ _)
  have HUb : Hid (Below w.heap.size w u) := Lib.hid (by rw [hu]; exact ((Below.refl _ w).alloc (Nat.le_refl _) _).alloc (by simp) _)
  have hPT : P < T := by omega
  have hus : T < u.heap.size := (Array.getElem?_eq_some_iff.1 HTu.out).1
  rw [← hT, ← hP]
  clear hu hP hT
  go_wp2_with fail
  refine (used4 T ⟨c, n, 0, k, 0, 0, 0⟩ (show k = 9 by omega) u HTu.out).mono ?_
  rintro e' u1 ⟨rfl, hb1⟩
  have HB1 := Lib.hid hb1
  clear hb1
  have HP1 := Lib.hid ((HB1.out.block P (by omega)).trans HPu.out)
  go_wp2_with fail
  refine (used4 P ⟨c, n, e, k, s, pl, m⟩ (show k = 9 by omega) u1 HP1.out).mono ?_
  rintro e' u2 ⟨rfl, hb2⟩
  have hs1 := HB1.out.size
  have HB2 : Hid (Below u.heap.size u u2) := Lib.hid (HB1.out.trans (hb2.mono hs1))
  have HP2 := Lib.hid ((HB2.out.block P (by omega)).trans HPu.out)
  have HT2 := Lib.hid ((HB2.out.block T (by omega)).trans HTu.out)
  clear hb2
  go_wp2
  go_loopw [39] (fun i wr => i = .int .i64 0 ∧ wr = u2) (fun i _ => 0)
  case atStart => exact ⟨rfl, rfl⟩
  case round =>
    obtain ⟨rfl, rfl⟩ := hrel
    have t0 := box_at HT2.out (j := 0) rfl
    have t1 := box_at HT2.out (j := 1) rfl
    have t2 := box_at HT2.out (j := 2) rfl
    have t3 := box_at HT2.out (j := 3) rfl
    have t4 := box_at HT2.out (j := 4) rfl
    have t5 := box_at HT2.out (j := 5) rfl
    have t6 := box_at HT2.out (j := 6) rfl
    have p0 := box_at HP2.out (j := 0) rfl
    have p1 := box_at HP2.out (j := 1) rfl
    have p2 := box_at HP2.out (j := 2) rfl
    have p3 := box_at HP2.out (j := 3) rfl
    have p4 := box_at HP2.out (j := 4) rfl
    have p5 := box_at HP2.out (j := 5) rfl
    have p6 := box_at HP2.out (j := 6) rfl
    go_wp2
    all_goals
      go_ret
      refine ⟨congrArg (fun b => Ending.returned (.bool b)) ?_, HUb.out.trans (HB2.out.mono HUb.out.size)⟩
      first
        | (symm; simp; omega)
        | (symm; simp only [Bool.and_eq_false_iff, decide_eq_false_iff_not]; omega)
        | (simp; omega)
set_option maxRecDepth 100000 in
set_option maxHeartbeats 4000000 in
theorem valid_bad (p : FP) (h0 : ¬ p.k = 0) (hb : (inR p.c 1 10 && inR p.n 1 1000000 && inR p.k 1 9) = false) (w : World) :
    Calls Try.prog 38 #[.agg p.cs] w fun e w' => e = .returned (.bool false) ∧ Below w.heap.size w w' := by
  have hk0 : (p.k == 0) = false := by simp; omega
  obtain ⟨c, n, e, k, s, pl, m⟩ := p
  simp only [FP.cs] at *
  go_enter Try.func38, Try.ntmps38
  have HW : Hid (∀ a l m w', Calls Try.prog 48 #[.int .i64 a, .int .i64 l, .int .i64 m] w' fun e w'' => e = .returned (.bool (inR a l m)) ∧ w' = w'') := Lib.hid (fun a l m w' => within_any a l m w')
  clear h0
  go_wp2_with fail
  refine (HW.out _ _ _ _).mono ?_
  cases hc1 : inR c 1 10
  · clear hb
    rintro e' w' ⟨rfl, rfl⟩
    go_wp2
    go_ret
    exact ⟨rfl, (Below.refl _ w).alloc (Nat.le_refl _) _⟩
  · rintro e' w' ⟨rfl, rfl⟩
    go_wp2_with fail
    refine (HW.out _ _ _ _).mono ?_
    cases hc2 : inR n 1 1000000
    · clear hb
      rintro e' w' ⟨rfl, rfl⟩
      go_wp2
      go_ret
      exact ⟨rfl, (Below.refl _ w).alloc (Nat.le_refl _) _⟩
    · rintro e' w' ⟨rfl, rfl⟩
      go_wp2_with fail
      refine (HW.out _ _ _ _).mono ?_
      have hc3 : inR k 1 9 = false := by simpa [hc1, hc2] using hb
      rw [hc3]
      clear hb
      rintro e' w' ⟨rfl, rfl⟩
      go_wp2
      go_ret
      exact ⟨rfl, (Below.refl _ w).alloc (Nat.le_refl _) _⟩
/-- fault.Valid of any plan -/
theorem valid_any (p : FP) (w : World) : Calls Try.prog 38 #[.agg p.cs] w fun e w' => e = .returned (.bool p.ok) ∧ Below w.heap.size w w' := by
  by_cases h0 : p.k = 0
  · exact valid0 p h0 w
  cases hb : (inR p.c 1 10 && inR p.n 1 1000000 && inR p.k 1 9)
  · refine (valid_bad p h0 hb w).mono ?_
    rintro e w' ⟨rfl, h⟩
    exact ⟨by simp [FP.ok, h0, hb], h⟩
  · simp only [Bool.and_eq_true] at hb
    obtain ⟨⟨h1, h2⟩, h3⟩ := hb
    have h3' : 1 ≤ p.k ∧ p.k ≤ 9 := by simpa [inR] using h3
    by_cases q3 : p.k ≤ 3
    · refine (valid1 p (by omega) q3 h1 h2 w).mono ?_
      rintro e w' ⟨rfl, h⟩
      exact ⟨by simp [FP.ok, h0, h1, h2, h3, q3], h⟩
    by_cases q7 : p.k ≤ 7
    · refine (valid2 p (by omega) q7 h1 h2 w).mono ?_
      rintro e w' ⟨rfl, h⟩
      exact ⟨by simp [FP.ok, h0, h1, h2, h3, q3, q7], h⟩
    by_cases q8 : p.k = 8
    · refine (valid3 p q8 h1 h2 w).mono ?_
      rintro e w' ⟨rfl, h⟩
      exact ⟨by simp [FP.ok, h1, h2, q8, show inR 8 1 9 = true from by decide, Bool.and_assoc], h⟩
    · refine (valid9 p (by omega) h1 h2 w).mono ?_
      rintro e w' ⟨rfl, h⟩
      exact ⟨by simp [FP.ok, h0, h1, h2, h3, q3, q7, q8], h⟩
end Go.Proofs.Ytbpifaamlcjocaa
