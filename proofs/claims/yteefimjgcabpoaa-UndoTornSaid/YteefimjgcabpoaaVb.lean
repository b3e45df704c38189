/- Undo: a list of booleans, read -/
import Derived.Test.YteefimjgcabpoaaVa
namespace Go.Proofs.Yteefimjgcabpoaa
open Go.ChangeShapes Go.WideShapes Go.ChangeAt Go.RowKit Go.Bs Go.Cl Go.Rw Go.Un Go.Rd Go.Deep Go.Joins
set_option maxRecDepth 100000 in
theorem read_bools {H : Type} {enc : TypeId × Value → H} {W : World} {base : Nat} {v : Value} {d : DataW H} {p : List MemPlace} (hv : Value.okWide Try.prog W .any base 34 v)
    (h : DataW.Trod enc Try.prog W 0 (fun _ => true) true 34 v d p) : ∃ l : List Bool, Raw [] 1 W v l.length (l.map Value.bool) := by
  obtain ⟨l, h2, _⟩ := read_val (rd := fun b => [Value.bool b]) (Rl := fun _ => True) Try.cells4 (by omega) (fun _ => rfl) Try.underlying34 (fun y _ u hu => by rw [List.mem_singleton.1 hu]; rfl) (fun fuel cs x hx => by
    obtain ⟨b, rfl, _⟩ := DataW.trod_bool Try.underlying4 hx
    exact ⟨b, rfl, trivial⟩) hv h
  refine ⟨l, ?_⟩
  have e : ∀ l : List Bool, (l.flatMap fun b => [Value.bool b]) = l.map Value.bool := fun l => by induction l with | nil => rfl | cons b l ih => rw [List.flatMap_cons, List.map_cons, ← ih]; rfl
  rw [← e]; exact h2
end Go.Proofs.Yteefimjgcabpoaa
