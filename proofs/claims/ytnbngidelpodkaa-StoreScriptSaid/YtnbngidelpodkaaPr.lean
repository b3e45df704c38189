/- Store: reading the arguments -/
import Derived.Test.YtnbngidelpodkaaChecked
import Derived.Test.YtnbngidelpodkaaRows
import Derived.Test.YtnbngidelpodkaaRe
namespace Go.Proofs.Ytnbngidelpodkaa
open Go.ChangeShapes Go.WideShapes Go.ChangeAt Go.RowKit Go.Bs Go.Cl Go.Rw Go.Rd Go.Deep Go.Joins
theorem Try.own : ownKnob Try.prog.godebug = none := by kernel_rfl
theorem Try.laidOut : laidOutB Try.prog = true := by kernel_rfl
theorem read_by {H : Type} {enc : TypeId × Value → H} {W : World} {base : Nat} {v : Value} {d : DataW H} {p : List MemPlace} (hv : Value.okWide Try.prog W .any base 22 v)
    (h : DataW.Trod enc Try.prog W 0 (fun _ => true) true 22 v d p) : ∃ l : List UInt8, Bytes [] W v l := read_bytes (by kernel_rfl) Try.underlying22 Try.underlying5 hv h
end Go.Proofs.Ytnbngidelpodkaa
