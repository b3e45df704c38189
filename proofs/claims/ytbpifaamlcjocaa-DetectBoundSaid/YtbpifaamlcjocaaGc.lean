/- detect: Restart, Bound and the reference's -/
import Derived.Test.YtbpifaamlcjocaaGb
import Derived.Test.YtbpifaamlcjocaaDg
namespace Go.Fa
open Go
def bnd (n m k : Int) : Int := 4000 + 2 * cost n m k + 1 + cnt m + 1 + (cnt n + 1)
theorem cost_lo (n m k : Int) : 2 ≤ cost n m k := by have := cnt_lo n; have := cnt_lo m; unfold cost; split <;> omega
theorem cost_hi (n m k : Int) (h2 : n ≤ 9223372036854775807) (h4 : m ≤ 9223372036854775807) (h5 : k ≤ 1099511627776) : cost n m k ≤ 200000000000000000 := by have := cnt_hi n h2; have := cnt_hi m h4; unfold cost; split <;> omega
end Go.Fa
namespace Go.Proofs.Ytbpifaamlcjocaa
open Go.RowKit Go.Bs Go.Cl Go.Rw Go.Un Go.Im Go.Fa
set_option maxHeartbeats 1000000 in
theorem rcount_any (n : Int) (h1 : -9223372036854775808 ≤ n) (h2 : n ≤ 9223372036854775807) (w : World) : Calls Try.prog 34 #[.int .i64 n] w fun e w' => e = .returned (.int .i64 (cnt n)) ∧ w = w' := by
  by_cases h : n ≤ 0
  · go_enter Try.func34, Try.ntmps34
    go_wp2
    go_ret
    exact ⟨ret_int (by unfold cnt; rw [if_pos h]), rfl⟩
  · have h3 : 0 ≤ n - 1 := by omega
    go_enter Try.func34, Try.ntmps34
    go_wp2
    go_ret
    exact ⟨ret_int (by unfold cnt; rw [if_neg (by omega)]), rfl⟩
set_option maxHeartbeats 1000000 in
theorem rcost_any (n m k : Int) (h1 : -9223372036854775808 ≤ n) (h2 : n ≤ 9223372036854775807) (h3 : -9223372036854775808 ≤ m) (h4 : m ≤ 9223372036854775807) (h5 : k ≤ 1099511627776) (w : World) :
    Calls Try.prog 36 #[.int .i64 n, .int .i64 m, .int .i64 k] w fun e w' => e = .returned (.int .i64 (cost n m k)) ∧ w = w' := by
  go_enter Try.func36, Try.ntmps36
  go_wp2_with fail
  refine (rcount_any n h1 h2 _).mono ?_
  rintro e w1 ⟨rfl, rfl⟩
  go_wp2_with fail
  refine (rcount_any m h3 h4 _).mono ?_
  rintro e w1 ⟨rfl, rfl⟩
  have a1 := cnt_lo n
  have a2 := cnt_lo m
  have a3 := cnt_hi n h2
  have a4 := cnt_hi m h4
  have hc : cost n m k = cnt n + cnt m + 2 + (if k ≤ 0 then 0 else k) := rfl
  generalize cnt n = x at a1 a3 hc
  generalize cnt m = y at a2 a4 hc
  have HC := Lib.hid hc
  clear hc
  by_cases hk : k ≤ 0
  · have hk0 : max k 0 = 0 := by omega
    go_wp2
    go_ret
    exact ⟨ret_int (by rw [HC.out, if_pos hk]; try omega), rfl⟩
  · have hk0 : max k 0 = k := by omega
    go_wp2
    go_ret
    exact ⟨ret_int (by rw [HC.out, if_neg (by omega)]; try omega), rfl⟩
set_option maxHeartbeats 1000000 in
theorem restart_any (n : Int) (h1 : -9223372036854775808 ≤ n) (h2 : n ≤ 9223372036854775807) (w : World) : Calls Try.prog 15 #[.int .i64 n] w fun e w' => e = .returned (.int .i64 (cnt n + 1)) ∧ w = w' := by
  go_enter Try.func15, Try.ntmps15
  go_wp2_with fail
  refine (acount_any n h1 h2 _).mono ?_
  rintro e w1 ⟨rfl, rfl⟩
  have a1 := cnt_lo n
  have a3 := cnt_hi n h2
  obtain ⟨x, hx⟩ : ∃ x, x = cnt n := ⟨_, rfl⟩
  rw [← hx] at a1 a3 ⊢
  have HX := Lib.hid hx
  clear hx
  go_wp2
  go_ret
  exact ⟨by rw [← HX.out]; rfl, rfl⟩
set_option maxHeartbeats 1000000 in
theorem rrestart_any (n : Int) (h1 : -9223372036854775808 ≤ n) (h2 : n ≤ 9223372036854775807) (w : World) : Calls Try.prog 16 #[.int .i64 n] w fun e w' => e = .returned (.int .i64 (cnt n + 1)) ∧ w = w' := by
  go_enter Try.func16, Try.ntmps16
  go_wp2_with fail
  refine (rcount_any n h1 h2 _).mono ?_
  rintro e w1 ⟨rfl, rfl⟩
  have a1 := cnt_lo n
  have a3 := cnt_hi n h2
  obtain ⟨x, hx⟩ : ∃ x, x = cnt n := ⟨_, rfl⟩
  rw [← hx] at a1 a3 ⊢
  have HX := Lib.hid hx
  clear hx
  go_wp2
  go_ret
  exact ⟨by rw [← HX.out]; rfl, rfl⟩
set_option maxRecDepth 100000 in
set_option maxHeartbeats 1000000 in
theorem bound_any (n m k : Int) (h1 : -9223372036854775808 ≤ n) (h2 : n ≤ 9223372036854775807) (h3 : -9223372036854775808 ≤ m) (h4 : m ≤ 9223372036854775807) (h5 : k ≤ 1099511627776) (w : World) :
    Calls Try.prog 17 #[.int .i64 n, .int .i64 m, .int .i64 k] w fun e w' => e = .returned (.int .i64 (bnd n m k)) ∧ w = w' := by
  go_enter Try.func17, Try.ntmps17
  go_wp2_with fail
  refine (acost_any n m k h1 h2 h3 h4 h5 _).mono ?_
  rintro e w1 ⟨rfl, rfl⟩
  have c1 := cost_lo n m k
  have c2 := cost_hi n m k h2 h4 h5
  have b1 := cnt_lo m
  have b3 := cnt_hi m h4
  have a1 := cnt_lo n
  have a3 := cnt_hi n h2
  have hb : bnd n m k = 4000 + 2 * cost n m k + 1 + cnt m + 1 + (cnt n + 1) := rfl
  generalize hC : cost n m k = C at c1 c2 hb
  have HC := Lib.hid hC
  clear hC
  go_wp2_with fail
  refine (acount_any m h3 h4 _).mono ?_
  rintro e w2 ⟨rfl, rfl⟩
  go_wp2_with fail
  refine (restart_any n h1 h2 _).mono ?_
  rintro e w3 ⟨rfl, rfl⟩
  generalize cnt n = x at a1 a3 hb
  generalize cnt m = y at b1 b3 hb
  have HB := Lib.hid hb
  clear hb
  go_wp2
  go_ret
  exact ⟨ret_int (by rw [HB.out]; try omega), rfl⟩
set_option maxRecDepth 100000 in
set_option maxHeartbeats 1000000 in
theorem rbound_any (n m k : Int) (h1 : -9223372036854775808 ≤ n) (h2 : n ≤ 9223372036854775807) (h3 : -9223372036854775808 ≤ m) (h4 : m ≤ 9223372036854775807) (h5 : k ≤ 1099511627776) (w : World) :
    Calls Try.prog 18 #[.int .i64 n, .int .i64 m, .int .i64 k] w fun e w' => e = .returned (.int .i64 (bnd n m k)) ∧ w = w' := by
  go_enter Try.func18, Try.ntmps18
  go_wp2_with fail
  refine (rcost_any n m k h1 h2 h3 h4 h5 _).mono ?_
  rintro e w1 ⟨rfl, rfl⟩
  have c1 := cost_lo n m k
  have c2 := cost_hi n m k h2 h4 h5
  have b1 := cnt_lo m
  have b3 := cnt_hi m h4
  have a1 := cnt_lo n
  have a3 := cnt_hi n h2
  have hb : bnd n m k = 4000 + 2 * cost n m k + 1 + cnt m + 1 + (cnt n + 1) := rfl
  generalize hC : cost n m k = C at c1 c2 hb
  have HC := Lib.hid hC
  clear hC
  go_wp2_with fail
  refine (rrestart_any m h3 h4 _).mono ?_
  rintro e w2 ⟨rfl, rfl⟩
  go_wp2_with fail
  refine (rrestart_any n h1 h2 _).mono ?_
  rintro e w3 ⟨rfl, rfl⟩
  generalize cnt n = x at a1 a3 hb
  generalize cnt m = y at b1 b3 hb
  have HB := Lib.hid hb
  clear hb
  go_wp2
  go_ret
  exact ⟨ret_int (by rw [HB.out]; try omega), rfl⟩
end Go.Proofs.Ytbpifaamlcjocaa
