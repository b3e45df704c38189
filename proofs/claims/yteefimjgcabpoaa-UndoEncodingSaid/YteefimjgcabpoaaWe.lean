/- The wire's readers: the program's readers of integers, bounded integers, byte strings -/
import Derived.Test.YteefimjgcabpoaaWd
namespace Go.Wi
open Go Go.RowKit Go.Bs Go.Cl Go.Rw
/-- an integer between two others -/
def rdB (b : List UInt8) (at_ : Nat) (lo hi : Int) : Option (Int × Nat) := match rdI b at_ with
  | some (x, m) => if lo ≤ x ∧ x ≤ hi then some (x, m) else none
  | none => none
/-- a byte string -/
def rdY (b : List UInt8) (at_ : Nat) (most : Int) : Option (List UInt8 × Nat) := match rdB b at_ 0 most with
  | some (x, m) => if at_ + m + x.toNat ≤ b.length then some ((b.take (at_ + m + x.toNat)).drop (at_ + m), m + x.toNat) else none
  | none => none
/-- what a reader's methods return, and the reader behind them: position, failed -/
def rI (b : List UInt8) (s : Nat × Bool) : Int × Nat × Bool := if s.2 then (0, s) else match rdI b s.1 with
  | some (x, m) => (x, s.1 + m, false)
  | none => (0, s.1, true)
def rB (b : List UInt8) (lo hi : Int) (s : Nat × Bool) : Int × Nat × Bool := if s.2 then (0, s) else match rdB b s.1 lo hi with
  | some (x, m) => (x, s.1 + m, false)
  | none => (0, s.1, true)
def rY (b : List UInt8) (most : Int) (s : Nat × Bool) : List UInt8 × Nat × Bool := if s.2 then ([], s) else match rdY b s.1 most with
  | some (x, m) => (x, s.1 + m, false)
  | none => ([], s.1, true)
theorem rdI_le {b : List UInt8} {at_ m : Nat} {x : Int} (h : rdI b at_ = some (x, m)) : at_ + m ≤ b.length ∧ 0 < m := by
  obtain ⟨_, rfl, t, ht⟩ := rdI_out h
  have := congrArg List.length ht
  have h0 := encI_pos x
  simp at this
  omega
theorem rdB_some {b : List UInt8} {at_ m : Nat} {lo hi x : Int} (h : rdB b at_ lo hi = some (x, m)) : rdI b at_ = some (x, m) ∧ lo ≤ x ∧ x ≤ hi := by
  unfold rdB at h
  cases hr : rdI b at_ with
  | none => rw [hr] at h; cases h
  | some p =>
    obtain ⟨x', m'⟩ := p
    rw [hr] at h
    simp only at h
    split at h
    · cases h; exact ⟨rfl, ‹_›⟩
    · cases h
theorem run_isAgg_plain' {P : Program} {t : TypeId} {d : TypeDesc} (h : P.underlying t = some d) (hd : (match d with | .struct _ | .array _ _ => true | _ => false) = false) (w : World) : (isAgg t).run P w = .ok false w := by
  unfold isAgg
  rw [Sem.run_bind, run_underlying h]
  simp only [Result.andThen_ok]
  cases d <;> first | rfl | (simp at hd)
theorem run_loadVar1 {P : Program} {t : TypeId} {d : TypeDesc} {w : World} {a : Addr} {v : Value} (h : P.underlying t = some d) (hd : (match d with | .struct _ | .array _ _ => true | _ => false) = false) (hc : w.cell? a = some v) : (loadVar t a).run P w = .ok v w := by
  unfold loadVar
  rw [Sem.run_bind, run_isAgg_plain' h hd]
  simp only [Result.andThen_ok, Bool.false_eq_true, if_false]
  simp [hc]
theorem results_cell1 {P : Program} {fn : Func} {p : Tmp} {ty : TypeId} (h : fn.results = #[.cell p ty]) (tmps : Array Value) {w : World} {a : Addr} {v : Value} {d : TypeDesc} (hp : tmps.getD p undef = .pointer (some a))
    (hu : P.underlying ty = some d) (hd : (match d with | .struct _ | .array _ _ => true | _ => false) = false) (hc : w.cell? a = some v) : (results fn tmps).run P w = .ok v w := by
  have hp' : tmps[p]?.getD undef = .pointer (some a) := by simpa using hp
  simp [results, h, hp', asAddr, run_loadVar1 hu hd hc]
theorem run_enter {P : Program} {f : FuncId} {fn : Func} {c : Code} (hf : P.funcs[f]? = some fn) (hname : (fn.name == "runtime.NumGoroutine") = false) (hb : fn.body = some c) (args : Array Value) (w : World) : (callFunc f args).run P w = .ok (.enter f args) w := by
  have h1 : fn.name ≠ "runtime.NumGoroutine" := by simpa using hname
  simp [callFunc, hf, h1, hb]
variable {T : TypeId} {w w' : World} {g at_ : Nat} {bv : Value} {b : List UInt8} {fl : Bool}
def BoundR (T : TypeId) (w : World) (g : Nat) (bv : Value) (b : List UInt8) (at_ : Nat) (lo hi : Int) (fl : Bool) (e : Ending) (w' : World) : Prop :=
  ∃ n ok p, e = .returned (.tuple #[.int .i64 n, .bool ok]) ∧ RdAt T w' g bv b p fl ∧ Keep [g] w w' ∧ at_ ≤ p ∧ (match rdB b at_ lo hi with | some (x, m) => n = x ∧ ok = true ∧ p = at_ + m | none => ok = false)
theorem BoundR.of_some {w' : World} {lo hi n : Int} {m p : Nat} {ok : Bool} (hd : rdI b at_ = some (n, m)) (hr : RdAt T w' g bv b p fl) (hk : Keep [g] w w') (hp : p = at_ + m) (hok : ok = decide (lo ≤ n ∧ n ≤ hi)) : BoundR T w g bv b at_ lo hi fl (.returned (.tuple #[.int .i64 n, .bool ok])) w' := by
  refine ⟨n, ok, p, rfl, hr, hk, by omega, ?_⟩
  unfold rdB
  rw [hd]
  simp only
  by_cases h : lo ≤ n ∧ n ≤ hi
  · rw [if_pos h]; exact ⟨rfl, by simp [hok, h], hp⟩
  · rw [if_neg h]; simp [hok, h]
theorem BoundR.of_none {w' : World} {lo hi n : Int} {p : Nat} (hd : rdI b at_ = none) (hr : RdAt T w' g bv b p fl) (hk : Keep [g] w w') (hp : at_ ≤ p) : BoundR T w g bv b at_ lo hi fl (.returned (.tuple #[.int .i64 n, .bool false])) w' :=
  ⟨n, false, p, rfl, hr, hk, hp, by unfold rdB; rw [hd]⟩
end Go.Wi
namespace Go.Proofs.Yteefimjgcabpoaa
open Go.RowKit Go.Bs Go.Cl Go.Rw Go.Wi
set_option maxHeartbeats 1000000 in
theorem wbounded_any (g : Nat) (bv : Value) (b : List UInt8) (at_ : Nat) (fl : Bool) (lo hi : Int) (w : World) (h : RdAt 93 w g bv b at_ fl) (hbl : b.length ≤ 1000000) :
    Calls Try.prog 61 #[.pointer (some ⟨g, 0, none⟩), .int .i64 lo, .int .i64 hi] w (BoundR 93 w g bv b at_ lo hi fl) := by
  have H := Lib.hid h; clear h
  go_enter Try.func61, Try.ntmps61
  go_wp2_with fail
  refine (wint63_any g bv b at_ fl _ H.out hbl).mono ?_
  rintro e w1 ⟨n, ok, p, rfl, hr, hk, hp, hm⟩
  have Hr := Lib.hid hr
  have Hk := Lib.hid hk
  clear hr hk
  cases hd : rdI b at_ with
  | none =>
    rw [hd] at hm
    obtain ⟨rfl, rfl⟩ := hm
    have Hd := Lib.hid hd; clear hd
    go_wp2
    go_ret2
    exact BoundR.of_none Hd.out Hr.out Hk.out hp
  | some q =>
    obtain ⟨x, m⟩ := q
    rw [hd] at hm
    obtain ⟨rfl, rfl, rfl⟩ := hm
    have Hd := Lib.hid hd; clear hd
    by_cases h1 : lo ≤ n
    · by_cases h2 : n ≤ hi
      · go_wp2
        go_ret2
        exact BoundR.of_some Hd.out Hr.out Hk.out rfl (by simp [h1, h2])
      · have h2' : hi < n := by omega
        go_wp2
        go_ret2
        exact BoundR.of_some Hd.out Hr.out Hk.out rfl (by simp; omega)
    · have h1' : n < lo := by omega
      go_wp2
      go_ret2
      exact BoundR.of_some Hd.out Hr.out Hk.out rfl (by simp; omega)
set_option maxHeartbeats 1000000 in
/-- try, where the reader has failed already -/
theorem wtry_failed (g : Nat) (bv : Value) (b : List UInt8) (at_ : Nat) (fn : Value) (w : World) (h : RdAt 93 w g bv b at_ true) :
    Calls Try.prog 59 #[.pointer (some ⟨g, 0, none⟩), fn] w fun e w' => (∃ v, e = .returned v) ∧ w = w' := by
  have c2 := box_at h.hc (j := 2) rfl
  clear h
  go_enter Try.func59, Try.ntmps59
  go_wp2
  (try simp only [Exit.inBlock, Exit.then]); refine bodyPost_ret (results_none rfl _ _ _) rfl ?_
  exact ⟨⟨_, rfl⟩, rfl⟩
set_option maxHeartbeats 1000000 in
/-- try, with a closure -/
theorem wtry_any (g : Nat) (bv : Value) (b : List UInt8) (at_ : Nat) (F : FuncId) (caps : Array Value) (R : Bool → Nat → World → Prop) (w : World) (h : RdAt 93 w g bv b at_ false)
    (hcf : ∀ w, (callFunc F caps).run Try.prog w = .ok (.enter F caps) w) (hc : Calls Try.prog F caps w fun e w1 => ∃ ok p, e = .returned (.bool ok) ∧ RdAt 93 w1 g bv b p false ∧ R ok p w1) :
    Calls Try.prog 59 #[.pointer (some ⟨g, 0, none⟩), .func (.func F) #[] caps] w fun e w' => (∃ v, e = .returned v) ∧ ∃ ok p w1, R ok p w1 ∧ (if ok then w' = w1 ∧ RdAt 93 w' g bv b p false else RdAt 93 w' g bv b at_ true ∧ Keep [g] w1 w') := by
  have c1 := box_at h.hc (j := 1) rfl
  have c2 := box_at h.hc (j := 2) rfl
  have ha := h.ha
  have Hc := Lib.hid hc; clear hc h
  go_enter Try.func59, Try.ntmps59
  go_wp2_with fail
  refine Hc.out.mono ?_
  rintro e w1 ⟨ok, p, rfl, hr, hR⟩
  cases ok
  · have h1 := hr.pos (p := at_) (x := at_) ha rfl
    have h2 := h1.1.fail true
    have c1 : w1.cell? ⟨g, 1, none⟩ = some (.int .i64 p) := box_at hr.hc rfl
    have f1 := box_free hr.hc 1
    have c2 : w1.cell? ⟨g, 2, none⟩ = some (.bool false) := box_at hr.hc rfl
    have f2 := box_free hr.hc 2
    have H2 := Lib.hid (And.intro h2.1 (h1.2.trans h2.2 (fun f hf => .inl hf)))
    have HR := Lib.hid hR
    clear h1 h2 hr hR
    go_wp2
    go_end0
    exact ⟨⟨_, rfl⟩, false, p, w1, HR.out, by simpa using H2.out⟩
  · have HR := Lib.hid hR
    have Hr := Lib.hid hr
    clear hr hR
    go_wp2
    go_end0
    exact ⟨⟨_, rfl⟩, true, p, w1, HR.out, by simpa using Hr.out⟩
end Go.Proofs.Yteefimjgcabpoaa
