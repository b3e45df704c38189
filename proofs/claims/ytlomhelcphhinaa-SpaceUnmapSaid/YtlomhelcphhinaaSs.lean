/- Space: an entry as an argument, read -/
import Derived.Test.YtlomhelcphhinaaSh
namespace Go.Proofs.Ytlomhelcphhinaa
open Go.ChangeShapes Go.WideShapes Go.ChangeAt Go.RowKit Go.Bs Go.Sp Go.Deep Go.Joins
set_option maxRecDepth 100000 in
theorem read_entry {H : Type} {enc : TypeId × Value → H} {W : World} {base : Nat} {v : Value} {d : DataW H} {p : List MemPlace} (hv : Value.okWide Try.prog W .any base 50 v)
    (h : DataW.Trod enc Try.prog W 0 (fun _ => true) true 50 v d p) : ∃ (a n : Int) (wb : Bool), v = .agg #[.int .i64 a, .int .i64 n, .bool wb] ∧ (Lit.int .i64 a).wf = true ∧ (Lit.int .i64 n).wf = true := by
  obtain ⟨c0, c1, c2, y0, y1, y2, m, rfl, _, _, h0, h1, h2⟩ := open_agg3 Try.underlying50 (by kernel_rfl) Try.cells50 hv h
  obtain ⟨a, e0, _, wa⟩ := DataW.trod_int Try.underlying3 h0
  obtain ⟨b, e1, _, wb⟩ := DataW.trod_int Try.underlying3 h1
  obtain ⟨c, e2, _⟩ := DataW.trod_bool Try.underlying4 h2
  simp at e0 e1 e2
  exact ⟨a, b, c, by rw [e0, e1, e2], wa, wb⟩
end Go.Proofs.Ytlomhelcphhinaa
