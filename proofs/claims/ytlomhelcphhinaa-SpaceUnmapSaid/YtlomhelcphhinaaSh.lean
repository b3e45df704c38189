/- Space: the arguments of the laws, read -/
import Derived.Test.YtlomhelcphhinaaRows
import Derived.Test.YtlomhelcphhinaaSe
import Derived.Test.YtlomhelcphhinaaRd
namespace Go.Proofs.Ytlomhelcphhinaa
open Go.ChangeShapes Go.WideShapes Go.ChangeAt Go.RowKit Go.Bs Go.Sp Go.Deep Go.Joins
theorem Try.own : ownKnob Try.prog.godebug = none := by kernel_rfl
theorem Try.laidOut : laidOutB Try.prog = true := by kernel_rfl
theorem Try.cells50 : Try.prog.cellsOf 50 = 3 := by kernel_rfl
theorem Try.cells25 : Try.prog.cellsOf 25 = 3 := by kernel_rfl
theorem Try.cells3 : Try.prog.cellsOf 3 = 1 := by kernel_rfl
theorem Try.cells4 : Try.prog.cellsOf 4 = 1 := by kernel_rfl

theorem wf_bounds {n : Int} (h : (Lit.int .i64 n).wf = true) : -9223372036854775808 ≤ n ∧ n ≤ 9223372036854775807 := by
  simpa [Lit.wf, IntKind.min, IntKind.max, IntKind.signed, IntKind.bits] using h

set_option maxRecDepth 100000 in
theorem entry_of {H : Type} {enc : TypeId × Value → H} {W : World} (fuel : Nat) (cs : List Value) (x : DataW H × List MemPlace)
    (h : DataW.trod enc Try.prog W 0 (fun _ => true) true fuel 50 cs = some x) : ∃ y : Ent, cs = encE y := by
  obtain ⟨y0, y1, y2, n, _, hlen, h0, h1, h2⟩ := trod_struct3 Try.underlying50 h
  rw [Try.cells50] at hlen
  match cs, hlen with
  | [c0, c1, c2], _ =>
    simp only [Try.cells3, Try.cells4, List.drop_succ_cons, List.drop_zero, List.take_succ_cons, List.take_zero] at h0 h1 h2
    obtain ⟨a, e0, _, _⟩ := DataW.trod_int Try.underlying3 h0
    obtain ⟨b, e1, _, _⟩ := DataW.trod_int Try.underlying3 h1
    obtain ⟨c, e2, _⟩ := DataW.trod_bool Try.underlying4 h2
    simp at e0 e1 e2
    exact ⟨⟨a, b, c⟩, by simp [encE, e0, e1, e2]⟩

set_option maxRecDepth 100000 in
theorem read_space {H : Type} {enc : TypeId × Value → H} {W : World} {base : Nat} {v : Value} {d : DataW H} {p : List MemPlace} (hv : Value.okWide Try.prog W .any base 23 v)
    (h : DataW.Trod enc Try.prog W 0 (fun _ => true) true 23 v d p) : ∃ l : List Ent, SlE W v l := by
  obtain ⟨a0, len, cap, rfl⟩ := okWide_slice Try.underlying23 hv
  obtain ⟨hc, _, l, hl, hh⟩ := Rd.read_slice3 (rd := encE) Try.cells50 (by omega) Try.underlying23 entry_of h
  refine ⟨l, a0, cap, by rw [hl], by omega, fun h0 => ?_⟩
  obtain ⟨b, off, rfl, hb, hcell⟩ := hh (by omega)
  refine ⟨b, off, rfl, hb, fun i hi => ?_⟩
  have g := hcell i (ent l i) (ent_get hi)
  exact ⟨g 0 (by omega), g 1 (by omega), g 2 (by omega)⟩

set_option maxRecDepth 100000 in
theorem read_range {H : Type} {enc : TypeId × Value → H} {W : World} {base : Nat} {v : Value} {d : DataW H} {p : List MemPlace} (hv : Value.okWide Try.prog W .any base 25 v)
    (h : DataW.Trod enc Try.prog W 0 (fun _ => true) true 25 v d p) : ∃ (a n : Int) (wb : Bool), v = .agg #[.int .i64 a, .int .i64 n, .bool wb] ∧ (Lit.int .i64 a).wf = true ∧ (Lit.int .i64 n).wf = true := by
  obtain ⟨c0, c1, c2, y0, y1, y2, m, rfl, _, _, h0, h1, h2⟩ := open_agg3 Try.underlying25 (by kernel_rfl) Try.cells25 hv h
  obtain ⟨a, e0, _, wa⟩ := DataW.trod_int Try.underlying3 h0
  obtain ⟨b, e1, _, wb⟩ := DataW.trod_int Try.underlying3 h1
  obtain ⟨c, e2, _⟩ := DataW.trod_bool Try.underlying4 h2
  simp at e0 e1 e2
  exact ⟨a, b, c, by rw [e0, e1, e2], wa, wb⟩
end Go.Proofs.Ytlomhelcphhinaa
