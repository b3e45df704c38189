/- Undo: the arguments of the laws, read -/
import Derived.Test.YteefimjgcabpoaaUm
import Derived.Test.YteefimjgcabpoaaRe
namespace Go.Proofs.Yteefimjgcabpoaa
open Go.ChangeShapes Go.WideShapes Go.ChangeAt Go.RowKit Go.Bs Go.Cl Go.Rw Go.Un Go.Rd Go.Deep Go.Joins
theorem Try.own : ownKnob Try.prog.godebug = none := by kernel_rfl
theorem Try.laidOut : laidOutB Try.prog = true := by kernel_rfl
theorem Try.cells3 : Try.prog.cellsOf 3 = 1 := by kernel_rfl
theorem Try.cells4 : Try.prog.cellsOf 4 = 1 := by kernel_rfl
theorem Try.cells5 : Try.prog.cellsOf 5 = 1 := by kernel_rfl
theorem Try.cells22 : Try.prog.cellsOf 22 = 1 := by kernel_rfl
theorem Try.cells66 : Try.prog.cellsOf 66 = 3 := by kernel_rfl

theorem wf_bounds {n : Int} (h : (Lit.int .i64 n).wf = true) : -9223372036854775808 ≤ n ∧ n ≤ 9223372036854775807 := by
  simpa [Lit.wf, IntKind.min, IntKind.max, IntKind.signed, IntKind.bits] using h

set_option maxRecDepth 100000 in
theorem rec_of {H : Type} {enc : TypeId × Value → H} {W : World} (fuel : Nat) (cs : List Value) (x : DataW H × List MemPlace)
    (h : DataW.trod enc Try.prog W 0 (fun _ => true) true fuel 66 cs = some x) : ∃ y : Rec × Value, cs = encR y ∧ (y.1.fits ∧ Bytes [] W y.2 y.1.old) := by
  obtain ⟨y0, y1, y2, n, _, hlen, h0, h1, h2⟩ := trod_struct3 Try.underlying66 h
  rw [Try.cells66] at hlen
  match cs, hlen with
  | [c0, c1, c2], _ =>
    simp only [Try.cells3, Try.cells22, List.drop_succ_cons, List.drop_zero, List.take_succ_cons, List.take_zero] at h0 h1 h2
    obtain ⟨a, e0, _, wa⟩ := DataW.trod_int Try.underlying3 h0
    obtain ⟨b, e1, _, wb⟩ := DataW.trod_int Try.underlying3 h1
    obtain ⟨v, l, e2, hl⟩ := read_bytes_cs Try.cells5 Try.underlying22 Try.underlying5 h2
    simp at e0 e1 e2
    have ha := wf_bounds wa
    have hb := wf_bounds wb
    exact ⟨(⟨a, b, l⟩, v), by simp [encR, e0, e1, e2], ⟨ha.1, ha.2, hb.1, hb.2⟩, hl⟩

set_option maxRecDepth 100000 in
theorem read_recs {H : Type} {enc : TypeId × Value → H} {W : World} {base : Nat} {v : Value} {d : DataW H} {p : List MemPlace} (hv : Value.okWide Try.prog W .any base 23 v)
    (h : DataW.Trod enc Try.prog W 0 (fun _ => true) true 23 v d p) : ∃ rs : List (Rec × Value), Recs [] W v rs ∧ ∀ q ∈ rs, q.1.fits := by
  obtain ⟨l, h1, h2⟩ := read_val (rd := encR) (Rl := fun y => y.1.fits ∧ Bytes [] W y.2 y.1.old) Try.cells66 (by omega) encR_len Try.underlying23 (fun y hy u hu => by
    obtain ⟨a, c, hc⟩ := Raw.slice hy.2
    simp [encR, hc] at hu
    rcases hu with rfl | rfl | rfl <;> rfl) rec_of hv h
  exact ⟨l, ⟨h1, fun p hp => (h2 p hp).2⟩, fun q hq => (h2 q hq).1⟩
set_option maxRecDepth 100000 in
theorem read_by {H : Type} {enc : TypeId × Value → H} {W : World} {base : Nat} {v : Value} {d : DataW H} {p : List MemPlace} (hv : Value.okWide Try.prog W .any base 22 v)
    (h : DataW.Trod enc Try.prog W 0 (fun _ => true) true 22 v d p) : ∃ l : List UInt8, Bytes [] W v l := read_bytes Try.cells5 Try.underlying22 Try.underlying5 hv h
end Go.Proofs.Yteefimjgcabpoaa
