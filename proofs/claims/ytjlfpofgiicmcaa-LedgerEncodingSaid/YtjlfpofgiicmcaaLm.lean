/- Ledger: bytes as an argument, read -/
import Derived.Test.YtjlfpofgiicmcaaLh
namespace Go.Proofs.Ytjlfpofgiicmcaa
open Go.ChangeShapes Go.WideShapes Go.ChangeAt Go.RowKit Go.Bs Go.Cl Go.Rw Go.Lg Go.Rd Go.Deep Go.Joins
theorem Try.cells5 : Try.prog.cellsOf 5 = 1 := by kernel_rfl
set_option maxRecDepth 100000 in
theorem read_u8 {H : Type} {enc : TypeId × Value → H} {W : World} {base : Nat} {v : Value} {d : DataW H} {p : List MemPlace} (hv : Value.okWide Try.prog W .any base 43 v)
    (h : DataW.Trod enc Try.prog W 0 (fun _ => true) true 43 v d p) : ∃ l : List UInt8, Bytes [] W v l := read_bytes Try.cells5 Try.underlying43 Try.underlying5 hv h
end Go.Proofs.Ytjlfpofgiicmcaa
