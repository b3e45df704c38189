/- time: the script read -/
import Derived.Test.YtdelemmoiaiooaaSe
import Derived.Test.YtdelemmoiaiooaaVr
namespace Go.Proofs.Ytdelemmoiaiooaa
open Go.ChangeShapes Go.WideShapes Go.ChangeAt Go.RowKit Go.Bs Go.Cl Go.Rw Go.Rd Go.Deep Go.Joins Go.Ti Go.Wi
theorem Try.cells56' : Try.prog.cellsOf 56 = 4 := by kernel_rfl
theorem Try.cells48' : Try.prog.cellsOf 48 = 1 := by kernel_rfl
set_option maxRecDepth 100000 in
theorem call_of {H : Type} {enc : TypeId × Value → H} {W : World} (fuel : Nat) (cs : List Value) (x : DataW H × List MemPlace) (hf : DataW.trod enc Try.prog W 0 (fun _ => true) true fuel 56 cs = some x) : ∃ y : Ca, cs = encC y ∧ True := by
  obtain ⟨d, p⟩ := x
  obtain ⟨_, _, _, _, hl, _⟩ := DataW.trod_struct Try.underlying56 hf
  rw [Try.cells56'] at hl
  match cs, hl with
  | [c0, c1, c2, c3], _ =>
    have g0 := Rl.trod_leaf (e := 3) (o := 0) [0] (by kernel_rfl) (by kernel_rfl) (by rw [Try.cells56']; exact Nat.le_of_ble_eq_true rfl) hf
    rw [Try.cells3'] at g0
    obtain ⟨_, _, g0, _⟩ := g0
    obtain ⟨k0, e0, _⟩ := DataW.trod_int Try.underlying3 g0
    simp at e0
    have g1 := Rl.trod_leaf (e := 3) (o := 1) [1] (by kernel_rfl) (by kernel_rfl) (by rw [Try.cells56']; exact Nat.le_of_ble_eq_true rfl) hf
    rw [Try.cells3'] at g1
    obtain ⟨_, _, g1, _⟩ := g1
    obtain ⟨k1, e1, _⟩ := DataW.trod_int Try.underlying3 g1
    simp at e1
    have g2 := Rl.trod_leaf (e := 3) (o := 2) [2] (by kernel_rfl) (by kernel_rfl) (by rw [Try.cells56']; exact Nat.le_of_ble_eq_true rfl) hf
    rw [Try.cells3'] at g2
    obtain ⟨_, _, g2, _⟩ := g2
    obtain ⟨k2, e2, _⟩ := DataW.trod_int Try.underlying3 g2
    simp at e2
    have g3 := Rl.trod_leaf (e := 3) (o := 3) [3] (by kernel_rfl) (by kernel_rfl) (by rw [Try.cells56']; exact Nat.le_of_ble_eq_true rfl) hf
    rw [Try.cells3'] at g3
    obtain ⟨_, _, g3, _⟩ := g3
    obtain ⟨k3, e3, _⟩ := DataW.trod_int Try.underlying3 g3
    simp at e3
    exact ⟨⟨k0, k1, k2, k3⟩, by simp [encC, e0, e1, e2, e3], trivial⟩
set_option maxRecDepth 100000 in
theorem read_calls {H : Type} {enc : TypeId × Value → H} {W : World} {base : Nat} {v : Value} {d : DataW H} {p : List MemPlace} (hv : Value.okWide Try.prog W .any base 48 v)
    (h : DataW.Trod enc Try.prog W 0 (fun _ => true) true 48 v d p) : ∃ l : List Ca, SlC W v l := by
  obtain ⟨l, h1, _⟩ := read_val (rd := encC) (Rl := fun _ => True) Try.cells56' (by omega) encC_len Try.underlying48 (fun y _ u hu => by
    simp [encC] at hu
    rcases hu with rfl | rfl | rfl | rfl <;> rfl) call_of hv h
  exact ⟨l, h1⟩
end Go.Proofs.Ytdelemmoiaiooaa
