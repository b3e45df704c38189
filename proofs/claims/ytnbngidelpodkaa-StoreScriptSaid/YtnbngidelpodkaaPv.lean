/- Store: reading calls -/
import Derived.Test.YtnbngidelpodkaaPy
import Derived.Test.YtnbngidelpodkaaPr
namespace Go.Proofs.Ytnbngidelpodkaa
open Go.ChangeShapes Go.WideShapes Go.ChangeAt Go.RowKit Go.Bs Go.Cl Go.Rw Go.Rd Go.Deep Go.Joins
set_option maxRecDepth 100000 in
theorem call_of {H : Type} {enc : TypeId × Value → H} {W : World} (fuel : Nat) (cs : List Value) (x : DataW H × List MemPlace)
    (h : DataW.trod enc Try.prog W 0 (fun _ => true) true fuel 52 cs = some x) : ∃ y : (Int × List UInt8) × Value, cs = encK y ∧ Bytes [] W y.2 y.1.2 := by
  obtain ⟨y0, y1, n, _, hlen, h0, h1⟩ := trod_struct2 Try.underlying52 h
  rw [show Try.prog.cellsOf 52 = 2 by kernel_rfl] at hlen
  match cs, hlen with
  | [c0, c1], _ =>
    simp only [show Try.prog.cellsOf 3 = 1 by kernel_rfl, show Try.prog.cellsOf 22 = 1 by kernel_rfl, List.drop_succ_cons, List.drop_zero, List.take_succ_cons, List.take_zero] at h0 h1
    obtain ⟨a, e0, _, wa⟩ := DataW.trod_int Try.underlying3 h0
    obtain ⟨v, l, e2, hl⟩ := read_bytes_cs (by kernel_rfl) Try.underlying22 Try.underlying5 h1
    simp at e0 e2
    exact ⟨((a, l), v), by simp [encK, e0, e2], hl⟩
set_option maxRecDepth 100000 in
theorem read_calls {H : Type} {enc : TypeId × Value → H} {W : World} {base : Nat} {v : Value} {d : DataW H} {p : List MemPlace} (hv : Value.okWide Try.prog W .any base 43 v)
    (h : DataW.Trod enc Try.prog W 0 (fun _ => true) true 43 v d p) : ∃ ls : List ((Int × List UInt8) × Value), CallL [] W v ls := by
  obtain ⟨l, h1, h2⟩ := read_val (rd := encK) (Rl := fun y => Bytes [] W y.2 y.1.2) (show Try.prog.cellsOf 52 = 2 by kernel_rfl) (by omega) encK_len Try.underlying43 (fun y hy u hu => by
    obtain ⟨a, c, hc⟩ := Raw.slice hy
    simp [encK, hc] at hu
    rcases hu with rfl | rfl <;> rfl) call_of hv h
  exact ⟨l, h1, h2⟩
end Go.Proofs.Ytnbngidelpodkaa
