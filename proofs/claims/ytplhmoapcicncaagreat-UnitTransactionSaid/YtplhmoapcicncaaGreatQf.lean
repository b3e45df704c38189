/- unit: the bound of detect, See, the ledger of a law's transactions -/
import Derived.Test.YtplhmoapcicncaaGreatQe
namespace Go.Fa
open Go
def bnd (n m k : Int) : Int := 4000 + 2 * cost n m k + 1 + acnt m + 1 + (acnt n + 1)
theorem cost_lo (n m k : Int) : 2 ≤ cost n m k := by have := acnt_lo n; have := acnt_lo m; unfold cost; split <;> omega
theorem cost_hi (n m k : Int) (h2 : n ≤ 9223372036854775807) (h4 : m ≤ 9223372036854775807) (h5 : k ≤ 1099511627776) : cost n m k ≤ 200000000000000000 := by have := acnt_hi n h2; have := acnt_hi m h4; unfold cost; split <;> omega
end Go.Fa
namespace Go.Im
open Go Go.RowKit Go.Bs Go.Cl Go.Rw Go.Un Go.Fa
/-- the ledger behind i transactions -/
def ledK (i : Nat) : List Lg.Lt := if i = 0 then [] else [⟨16, i⟩]
theorem ledK_len (i : Nat) : (ledK i).length ≤ 1 := by unfold ledK; split <;> simp
theorem ledK_seen (i : Nat) : Lg.seenL (ledK i) 16 = i := by
  unfold Lg.seenL
  by_cases h : i = 0
  · subst h; rfl
  · have e : ledK i = [⟨16, i⟩] := by unfold ledK; rw [if_neg h]
    rw [e]; rfl
theorem ledK_ok (i : Nat) : (Lg.validL (ledK i) && Lg.propL 16) = true := by
  by_cases h : i = 0
  · subst h; rfl
  · have e : ledK i = [⟨16, i⟩] := by unfold ledK; rw [if_neg h]
    rw [e]
    simp [Lg.validL, Lg.okL, Lg.propL, Lg.ltAt]
    omega
theorem ledK_next (i : Nat) : Lg.seeL (ledK i) 16 (i + 1 : Nat) = (ledK (i + 1), 1, 0) := by
  unfold Lg.seeL
  rw [if_pos (ledK_ok i), ledK_seen, if_neg (by omega), if_neg (by omega)]
  congr 1
  by_cases h : i = 0
  · subst h; rfl
  · have e : ledK i = [⟨16, i⟩] := by unfold ledK; rw [if_neg h]
    have e2 : ledK (i + 1) = [⟨16, (i + 1 : Nat)⟩] := by unfold ledK; rw [if_neg (by omega)]
    rw [e, e2]; rfl
theorem ledK_again (i : Nat) (h : 1 ≤ i) : Lg.seeL (ledK i) 16 (i : Nat) = (ledK i, 2, 0) := by
  unfold Lg.seeL
  rw [if_pos (ledK_ok i), ledK_seen, if_pos (by omega)]
end Go.Im
namespace Go.Proofs.YtplhmoapcicncaaGreat
open Go.RowKit Go.Bs Go.Cl Go.Rw Go.Un Go.Im Go.Fa Go.Wi
set_option maxRecDepth 100000 in
set_option maxHeartbeats 1000000 in
theorem bound_any (n m k : Int) (h1 : -9223372036854775808 ≤ n) (h2 : n ≤ 9223372036854775807) (h3 : -9223372036854775808 ≤ m) (h4 : m ≤ 9223372036854775807) (h5 : k ≤ 1099511627776) (w : World) :
    Calls Tryz.prog 8 #[.int .i64 n, .int .i64 m, .int .i64 k] w fun e w' => e = .returned (.int .i64 (bnd n m k)) ∧ w = w' := by
  go_enter Tryz.func8, Tryz.ntmps8
  go_wp2_with fail
  refine (acost_any n m k h1 h2 h3 h4 h5 _).mono ?_
  rintro e w1 ⟨rfl, rfl⟩
  have c1 := cost_lo n m k
  have c2 := cost_hi n m k h2 h4 h5
  have b1 := acnt_lo m
  have b3 := acnt_hi m h4
  have a1 := acnt_lo n
  have a3 := acnt_hi n h2
  have hb : bnd n m k = 4000 + 2 * cost n m k + 1 + acnt m + 1 + (acnt n + 1) := rfl
  generalize hC : cost n m k = C at c1 c2 hb
  have HC := Lib.hid hC
  clear hC
  go_wp2_with fail
  refine (acount_any m h3 h4 _).mono ?_
  rintro e w2 ⟨rfl, rfl⟩
  go_wp2_with fail
  refine (restart_any n h1 h2 _).mono ?_
  rintro e w3 ⟨rfl, rfl⟩
  generalize acnt n = x at a1 a3 hb
  generalize acnt m = y at b1 b3 hb
  have HB := Lib.hid hb
  clear hb
  go_wp2
  go_ret
  exact ⟨ret_int (by rw [HB.out]; try omega), rfl⟩

theorem ull_see {w0 w : World} {u : Nat} {x : Us} {s : Ps} {rows : List (Value × List UInt8)} {L : List Nat} (H : ULL w0 u x s rows L w) (ms md mk mq m0 m1 m2 m3 : Int) (mv : Value) (hll : x.led.length ≤ 1000) (hq1 : -9223372036854775808 ≤ mq) (hq2 : mq ≤ 9223372036854775807) :
    Calls Tryz.prog 14 #[.pointer (some ⟨u, 0, none⟩), .agg #[.int .i64 ms, .int .i64 md, .int .i64 mk, .int .i64 mq, .int .i64 m0, .int .i64 m1, .int .i64 m2, .int .i64 m3, mv]] w fun e w' => e = .returned (.tuple #[.int .i64 (Lg.seeL x.led ms mq).2.1, .int .i64 (Lg.seeL x.led ms mq).2.2]) ∧ Below w.heap.size w w' ∧ ULL w0 u x s rows L w' := by
  have H' := H
  obtain ⟨_, base, g, h, iv, rv, lv, _, _, h4, _, _, _⟩ := H'
  refine (usee_any h4 ms md mk mq m0 m1 m2 m3 mv hll hq1 hq2).mono ?_
  rintro e w' ⟨rfl, hb⟩
  exact ⟨rfl, hb, H.below hb⟩
end Go.Proofs.YtplhmoapcicncaaGreat
