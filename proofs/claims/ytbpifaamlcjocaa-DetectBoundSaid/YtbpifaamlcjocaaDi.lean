/- Detect: a list of numbers, read -/
import Derived.Test.YtbpifaamlcjocaaDa
import Derived.Test.YtbpifaamlcjocaaRe
namespace Go.Proofs.Ytbpifaamlcjocaa
open Go.ChangeShapes Go.WideShapes Go.ChangeAt Go.RowKit Go.Bs Go.Cl Go.Rw Go.Rd Go.Deep Go.Joins Go.Dt
theorem Try.own : ownKnob Try.prog.godebug = none := by kernel_rfl
theorem Try.laidOut : laidOutB Try.prog = true := by kernel_rfl
theorem Try.cells3 : Try.prog.cellsOf 3 = 1 := by kernel_rfl
set_option maxRecDepth 100000 in
theorem read_ints {H : Type} {enc : TypeId × Value → H} {W : World} {base : Nat} {v : Value} {d : DataW H} {p : List MemPlace} (hv : Value.okWide Try.prog W .any base 24 v)
    (h : DataW.Trod enc Try.prog W 0 (fun _ => true) true 24 v d p) : ∃ l : List Int, Ints [] W v l := by
  obtain ⟨l, h2, _⟩ := read_val (rd := fun b => [Value.int .i64 b]) (Rl := fun _ => True) Try.cells3 (by omega) (fun _ => rfl) Try.underlying24 (fun y _ u hu => by rw [List.mem_singleton.1 hu]; rfl) (fun fuel cs x hx => by
    obtain ⟨b, rfl, _⟩ := DataW.trod_int Try.underlying3 hx
    exact ⟨b, rfl, trivial⟩) hv h
  refine ⟨l, ?_⟩
  have e : ∀ l : List Int, (l.flatMap fun b => [Value.int .i64 b]) = l.map (Value.int .i64) := fun l => by induction l with | nil => rfl | cons b l ih => rw [List.flatMap_cons, List.map_cons, ← ih]; rfl
  unfold Ints
  rw [← e]; exact h2
end Go.Proofs.Ytbpifaamlcjocaa
