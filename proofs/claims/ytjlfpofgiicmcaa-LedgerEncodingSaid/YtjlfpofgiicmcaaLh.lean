/- Ledger: the arguments of the laws, read -/
import Derived.Test.YtjlfpofgiicmcaaLg
import Derived.Test.YtjlfpofgiicmcaaRe
namespace Go.Proofs.Ytjlfpofgiicmcaa
open Go.ChangeShapes Go.WideShapes Go.ChangeAt Go.RowKit Go.Bs Go.Cl Go.Rw Go.Lg Go.Rd Go.Deep Go.Joins
theorem Try.own : ownKnob Try.prog.godebug = none := by kernel_rfl
theorem Try.laidOut : laidOutB Try.prog = true := by kernel_rfl
theorem Try.cells3 : Try.prog.cellsOf 3 = 1 := by kernel_rfl
theorem Try.cells30 : Try.prog.cellsOf 30 = 2 := by kernel_rfl

theorem wf_bounds {n : Int} (h : (Lit.int .i64 n).wf = true) : -9223372036854775808 ≤ n ∧ n ≤ 9223372036854775807 := by
  simpa [Lit.wf, IntKind.min, IntKind.max, IntKind.signed, IntKind.bits] using h

set_option maxRecDepth 100000 in
theorem last_of {H : Type} {enc : TypeId × Value → H} {W : World} (fuel : Nat) (cs : List Value) (x : DataW H × List MemPlace)
    (h : DataW.trod enc Try.prog W 0 (fun _ => true) true fuel 30 cs = some x) : ∃ y : Lt, cs = encL y ∧ fitsL y := by
  obtain ⟨y0, y1, n, _, hlen, h0, h1⟩ := trod_struct2 Try.underlying30 h
  rw [Try.cells30] at hlen
  match cs, hlen with
  | [c0, c1], _ =>
    simp only [Try.cells3, List.drop_succ_cons, List.drop_zero, List.take_succ_cons, List.take_zero] at h0 h1
    obtain ⟨a, e0, _, wa⟩ := DataW.trod_int Try.underlying3 h0
    obtain ⟨b, e1, _, wb⟩ := DataW.trod_int Try.underlying3 h1
    simp at e0 e1
    have ha := wf_bounds wa
    have hb := wf_bounds wb
    exact ⟨⟨a, b⟩, by simp [encL, e0, e1], ha.1, ha.2, hb.1, hb.2⟩

set_option maxRecDepth 100000 in
theorem read_led {H : Type} {enc : TypeId × Value → H} {W : World} {base : Nat} {v : Value} {d : DataW H} {p : List MemPlace} (hv : Value.okWide Try.prog W .any base 22 v)
    (h : DataW.Trod enc Try.prog W 0 (fun _ => true) true 22 v d p) : ∃ l : List Lt, SlL W v l ∧ ∀ x ∈ l, fitsL x := by
  obtain ⟨l, h1, h2⟩ := read_val (rd := encL) (Rl := fitsL) Try.cells30 (by omega) encL_len Try.underlying22 (fun y hy u hu => by
    simp [encL] at hu
    rcases hu with rfl | rfl <;> rfl) last_of hv h
  exact ⟨l, h1, h2⟩
set_option maxRecDepth 100000 in
theorem read_last {H : Type} {enc : TypeId × Value → H} {W : World} {base : Nat} {v : Value} {d : DataW H} {p : List MemPlace} (hv : Value.okWide Try.prog W .any base 30 v)
    (h : DataW.Trod enc Try.prog W 0 (fun _ => true) true 30 v d p) : ∃ z : Lt, v = .agg #[.int .i64 z.t, .int .i64 z.q] ∧ fitsL z := by
  obtain ⟨c0, c1, y0, y1, m, rfl, _, _, h0, h1⟩ := open_agg2 Try.underlying30 (by kernel_rfl) Try.cells30 hv h
  obtain ⟨a, e0, _, wa⟩ := DataW.trod_int Try.underlying3 h0
  obtain ⟨b, e1, _, wb⟩ := DataW.trod_int Try.underlying3 h1
  simp at e0 e1
  have ha := wf_bounds wa
  have hb := wf_bounds wb
  exact ⟨⟨a, b⟩, by rw [e0, e1], ha.1, ha.2, hb.1, hb.2⟩
end Go.Proofs.Ytjlfpofgiicmcaa
