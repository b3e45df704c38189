/- Undo: steps as arguments, read -/
import Derived.Test.YteefimjgcabpoaaUo
namespace Go.Un
open Go Go.RowKit Go.Bs Go.Cl Go.Rw
structure Stp where
  op : Int
  n : Int
  d : List UInt8
def encS (p : Stp × Value) : List Value := [.int .i64 p.1.op, .int .i64 p.1.n, p.2]
theorem encS_len (p : Stp × Value) : (encS p).length = 3 := rfl
def Stp.fits (r : Stp) : Prop := -9223372036854775808 ≤ r.op ∧ r.op ≤ 9223372036854775807 ∧ -9223372036854775808 ≤ r.n ∧ r.n ≤ 9223372036854775807
def StepL (F : List Nat) (w : World) (v : Value) (rs : List (Stp × Value)) : Prop := Raw F 3 w v rs.length (rs.flatMap encS) ∧ ∀ p ∈ rs, Bytes F w p.2 p.1.d
theorem StepL.below {F : List Nat} {w w' : World} {v : Value} {rs : List (Stp × Value)} (h : StepL F w v rs) (hb : Below w.heap.size w w') : StepL F w' v rs := ⟨Raw.below h.1 hb, fun p hp => Raw.below (h.2 p hp) hb⟩
end Go.Un
namespace Go.Proofs.Yteefimjgcabpoaa
open Go.ChangeShapes Go.WideShapes Go.ChangeAt Go.RowKit Go.Bs Go.Cl Go.Rw Go.Un Go.Rd Go.Deep Go.Joins
theorem Try.cells41 : Try.prog.cellsOf 41 = 3 := by kernel_rfl
set_option maxRecDepth 100000 in
theorem stp_of {H : Type} {enc : TypeId × Value → H} {W : World} (fuel : Nat) (cs : List Value) (x : DataW H × List MemPlace)
    (h : DataW.trod enc Try.prog W 0 (fun _ => true) true fuel 41 cs = some x) : ∃ y : Stp × Value, cs = encS y ∧ (y.1.fits ∧ Bytes [] W y.2 y.1.d) := by
  obtain ⟨y0, y1, y2, n, _, hlen, h0, h1, h2⟩ := trod_struct3 Try.underlying41 h
  rw [Try.cells41] at hlen
  match cs, hlen with
  | [c0, c1, c2], _ =>
    simp only [Try.cells3, Try.cells22, List.drop_succ_cons, List.drop_zero, List.take_succ_cons, List.take_zero] at h0 h1 h2
    obtain ⟨a, e0, _, wa⟩ := DataW.trod_int Try.underlying3 h0
    obtain ⟨b, e1, _, wb⟩ := DataW.trod_int Try.underlying3 h1
    obtain ⟨v, l, e2, hl⟩ := read_bytes_cs Try.cells5 Try.underlying22 Try.underlying5 h2
    simp at e0 e1 e2
    have ha := wf_bounds wa
    have hb := wf_bounds wb
    exact ⟨(⟨a, b, l⟩, v), by simp [encS, e0, e1, e2], ⟨ha.1, ha.2, hb.1, hb.2⟩, hl⟩

set_option maxRecDepth 100000 in
theorem read_steps {H : Type} {enc : TypeId × Value → H} {W : World} {base : Nat} {v : Value} {d : DataW H} {p : List MemPlace} (hv : Value.okWide Try.prog W .any base 33 v)
    (h : DataW.Trod enc Try.prog W 0 (fun _ => true) true 33 v d p) : ∃ rs : List (Stp × Value), StepL [] W v rs ∧ ∀ q ∈ rs, q.1.fits := by
  obtain ⟨l, h1, h2⟩ := read_val (rd := encS) (Rl := fun y => y.1.fits ∧ Bytes [] W y.2 y.1.d) Try.cells41 (by omega) encS_len Try.underlying33 (fun y hy u hu => by
    obtain ⟨a, c, hc⟩ := Raw.slice hy.2
    simp [encS, hc] at hu
    rcases hu with rfl | rfl | rfl <;> rfl) stp_of hv h
  exact ⟨l, ⟨h1, fun p hp => (h2 p hp).2⟩, fun q hq => (h2 q hq).1⟩
set_option maxRecDepth 100000 in
theorem read_step {H : Type} {enc : TypeId × Value → H} {W : World} {base : Nat} {v : Value} {d : DataW H} {p : List MemPlace} (hv : Value.okWide Try.prog W .any base 41 v)
    (h : DataW.Trod enc Try.prog W 0 (fun _ => true) true 41 v d p) : ∃ (op n : Int) (a : Option Addr) (k c : Nat), v = .agg #[.int .i64 op, .int .i64 n, .slice a k c] := by
  obtain ⟨c0, c1, c2, y0, y1, y2, m, rfl, _, _, h0, h1, h2⟩ := open_agg3 Try.underlying41 (by kernel_rfl) Try.cells41 hv h
  obtain ⟨a, e0, _, wa⟩ := DataW.trod_int Try.underlying3 h0
  obtain ⟨b, e1, _, wb⟩ := DataW.trod_int Try.underlying3 h1
  obtain ⟨v, l, e2, hl⟩ := read_bytes_cs Try.cells5 Try.underlying22 Try.underlying5 h2
  simp at e0 e1 e2
  obtain ⟨a2, c, rfl⟩ := Raw.slice hl
  exact ⟨a, b, a2, _, c, by rw [e0, e1, e2]⟩
end Go.Proofs.Yteefimjgcabpoaa
