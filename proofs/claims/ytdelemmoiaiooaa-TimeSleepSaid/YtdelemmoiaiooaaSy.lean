/- time: arrays of numbers compared -/
import Derived.Test.YtdelemmoiaiooaaSd
import Derived.Laws.Rows
namespace Go.Rw
open Go Go.RowKit
theorem run_loadVar_at {P : Program} (w : World) (g o : Nat) (ty : TypeId) (cs : Array Value) (d : TypeDesc) (hg : ∀ j v, cs[j]? = some v → w.cell? ⟨g, o + j, none⟩ = some v)
    (hu : P.underlying ty = some d) (hd : (match d with | .struct _ | .array _ _ => true | _ => false) = true) (hi : (P.info? ty).map (·.size) = some cs.size) :
    (loadVar ty ⟨g, o, none⟩).run P w = .ok (.agg cs) w := by
  have hl : (loadCells ⟨g, o, none⟩ cs.toList.length).run P w = .ok cs.toList.toArray w :=
    run_loadCells_list (P := P) w ⟨g, o, none⟩ cs.toList (fun j v hv => by
      have hadd : (⟨g, o, none⟩ : Addr).add j = ⟨g, o + j, none⟩ := by unfold Addr.add; split <;> simp_all
      rw [hadd]
      exact hg j v (by simpa using hv))
  cases hq : P.info? ty with
  | none => simp [hq] at hi
  | some i =>
    have hs : i.size = cs.size := by simpa [hq] using hi
    have hagg : (isAgg ty).run P w = .ok true w := by
      unfold isAgg
      rw [Sem.run_bind, run_underlying hu w]
      cases d <;> simp_all
    simp only [Array.length_toList, Array.toArray_toList] at hl
    simp [loadVar, Sem.run_bind, hagg, sizeOf, typeInfo, hq, hs, hl]
theorem wpList_load_at' {P : Program} {Q : Exit → Act → World → Prop} {ops : Array Oper} {rest : List Oper} {o : Oper} {a : Act} {w : World} (hgd : Region.wanted o (yielded ops a.tmps) = true) (ty : TypeId) (x : Operand) (ho : o.op = .load ty x)
    (g off : Nat) (hx : a.eval x = .pointer (some ⟨g, off, none⟩)) (cs : Array Value) (d : TypeDesc) (hg : ∀ j v, cs[j]? = some v → w.cell? ⟨g, off + j, none⟩ = some v)
    (hu : P.underlying ty = some d) (hd : (match d with | .struct _ | .array _ _ => true | _ => false) = true) (hi : (P.info? ty).map (·.size) = some cs.size)
    (h : wpList P ops Q rest (a.put o.dst (.agg cs)) w) : wpList P ops Q (o :: rest) a w :=
  wpList_step fun K hK => by
    simp only [hgd, if_true]
    unfold Oper.wp execOp
    simp only [ho, hx, Instr.loadAt, Instr.sureAddr, Sem.run_bind, Sem.run_pure, Result.andThen_ok, run_loadVar_at w g off ty cs d hg hu hd hi]
    exact hK _ _ h
end Go.Rw
namespace Go.Proofs.Ytdelemmoiaiooaa
open Go.RowKit Go.Bs Go.Cl Go.Rw Go.Ti Go.Wi
theorem eg52 : Try.prog.eqGuardType Try.prog.depth 52 = false := by kernel_rfl
set_option maxHeartbeats 4000000 in
@[go_sem] theorem eq52 (f : Nat → Int) (w : World) : (Op.equalIn 10000 52 (.agg (ints f)) (.agg (ints f))).run Try.prog w = .ok true w := by
  have hp : ∀ j, j < 32 → (part 3 (ints f) j).run Try.prog w = .ok (.int .i64 (f j)) w := fun j hj => by
    simp [part, isAgg, run_underlying Try.underlying3, ints_get f hj]
  have hs : (sizeOf 3).run Try.prog w = .ok 1 w := by simp [Try.sizeOf3]
  rw [Op.equalIn]
  simp only [Sem.run_bind, run_underlying Try.underlying52, Result.andThen_ok, Std.Legacy.Range.forIn_eq_forIn_range', Std.Legacy.Range.size, Nat.sub_zero, Nat.add_sub_cancel, Nat.div_one]
  simp only [hs, Result.andThen_ok]
  have hL : ∀ L : List Nat, (∀ i ∈ L, i < 32) → (forIn L ((none, ()) : Option Bool × Unit) (fun i __s => do
            let a ← part 3 (ints f) (i * 1)
            let b ← part 3 (ints f) (i * 1)
            let c ← Op.equalIn 9999 3 a b
            if (!c) = true then pure (ForInStep.done (some false, ())) else pure (ForInStep.yield (none, ())))).run Try.prog w = .ok (none, ()) w := by
    intro L
    induction L with
    | nil => intro _; simp
    | cons i L ih =>
      intro h
      have hi := h i (by simp)
      have ih' := ih (fun j hj => h j (by simp [hj]))
      simp only [List.forIn_cons, Sem.run_bind, Nat.mul_one, hp i hi, Result.andThen_ok, run_equalIn_int w _ 3 .i64 .i64 _ _ Try.underlying3]
      simp only [Nat.mul_one] at ih'
      simp only [beq_self_eq_true, Bool.not_true, Bool.false_eq_true, if_false, Sem.run_pure, Result.andThen_ok]
      exact ih'
  rw [hL _ (fun i hi => by simp [List.mem_range'] at hi; omega)]
  simp
end Go.Proofs.Ytdelemmoiaiooaa
