/- Revive: the messages read -/
import Derived.Test.YthmnhpakgjnngaaDoorXh
import Derived.Test.YthmnhpakgjnngaaDoorVn
namespace Go.Proofs.YthmnhpakgjnngaaDoor
open Go.ChangeShapes Go.WideShapes Go.ChangeAt Go.RowKit Go.Bs Go.Cl Go.Rw Go.Rd Go.Dt Go.Rv
theorem Tryd.cellsMg : Tryd.prog.cellsOf 40 = 9 := by kernel_rfl
theorem Tryd.cellsN3 : Tryd.prog.cellsOf 3 = 1 := by kernel_rfl
theorem Tryd.cellsYb : Tryd.prog.cellsOf 38 = 1 := by kernel_rfl
theorem wf_i64m {n : Int} (h : (Lit.int .i64 n).wf = true) : Rv.fits n := by
  simp [Lit.wf, IntKind.min, IntKind.max, IntKind.signed, IntKind.bits] at h
  unfold Rv.fits; omega
set_option maxRecDepth 100000 in
theorem msg_of {H : Type} {enc : TypeId × Value → H} {W : World} (fuel : Nat) (cs : List Value) (x : DataW H × List MemPlace) (hf : DataW.trod enc Tryd.prog W 0 (fun _ => true) true fuel 40 cs = some x) : ∃ y : Mg, cs = encMg y ∧ Rv.fits y.m.kind := by
  obtain ⟨d, p⟩ := x
  obtain ⟨_, _, _, _, hl, _⟩ := DataW.trod_struct Tryd.underlying40 hf
  rw [Tryd.cellsMg] at hl
  match cs, hl with
  | [c0, c1, c2, c3, c4, c5, c6, c7, c8], _ =>
    have g0 := Rl.trod_leaf (e := 3) (o := 0) [0] (by kernel_rfl) (by kernel_rfl) (by rw [Tryd.cellsMg]; exact Nat.le_of_ble_eq_true rfl) hf
    rw [Tryd.cellsN3] at g0
    obtain ⟨_, _, g0, _⟩ := g0
    obtain ⟨k0, e0, _, z0⟩ := DataW.trod_int Tryd.underlying3 g0
    simp at e0
    have g1 := Rl.trod_leaf (e := 3) (o := 1) [1] (by kernel_rfl) (by kernel_rfl) (by rw [Tryd.cellsMg]; exact Nat.le_of_ble_eq_true rfl) hf
    rw [Tryd.cellsN3] at g1
    obtain ⟨_, _, g1, _⟩ := g1
    obtain ⟨k1, e1, _, z1⟩ := DataW.trod_int Tryd.underlying3 g1
    simp at e1
    have g2 := Rl.trod_leaf (e := 3) (o := 2) [2] (by kernel_rfl) (by kernel_rfl) (by rw [Tryd.cellsMg]; exact Nat.le_of_ble_eq_true rfl) hf
    rw [Tryd.cellsN3] at g2
    obtain ⟨_, _, g2, _⟩ := g2
    obtain ⟨k2, e2, _, z2⟩ := DataW.trod_int Tryd.underlying3 g2
    simp at e2
    have g3 := Rl.trod_leaf (e := 3) (o := 3) [3] (by kernel_rfl) (by kernel_rfl) (by rw [Tryd.cellsMg]; exact Nat.le_of_ble_eq_true rfl) hf
    rw [Tryd.cellsN3] at g3
    obtain ⟨_, _, g3, _⟩ := g3
    obtain ⟨k3, e3, _, z3⟩ := DataW.trod_int Tryd.underlying3 g3
    simp at e3
    have g4 := Rl.trod_leaf (e := 3) (o := 4) [4, 0] (by kernel_rfl) (by kernel_rfl) (by rw [Tryd.cellsMg]; exact Nat.le_of_ble_eq_true rfl) hf
    rw [Tryd.cellsN3] at g4
    obtain ⟨_, _, g4, _⟩ := g4
    obtain ⟨k4, e4, _, z4⟩ := DataW.trod_int Tryd.underlying3 g4
    simp at e4
    have g5 := Rl.trod_leaf (e := 3) (o := 5) [4, 1] (by kernel_rfl) (by kernel_rfl) (by rw [Tryd.cellsMg]; exact Nat.le_of_ble_eq_true rfl) hf
    rw [Tryd.cellsN3] at g5
    obtain ⟨_, _, g5, _⟩ := g5
    obtain ⟨k5, e5, _, z5⟩ := DataW.trod_int Tryd.underlying3 g5
    simp at e5
    have g6 := Rl.trod_leaf (e := 3) (o := 6) [4, 2] (by kernel_rfl) (by kernel_rfl) (by rw [Tryd.cellsMg]; exact Nat.le_of_ble_eq_true rfl) hf
    rw [Tryd.cellsN3] at g6
    obtain ⟨_, _, g6, _⟩ := g6
    obtain ⟨k6, e6, _, z6⟩ := DataW.trod_int Tryd.underlying3 g6
    simp at e6
    have g7 := Rl.trod_leaf (e := 3) (o := 7) [4, 3] (by kernel_rfl) (by kernel_rfl) (by rw [Tryd.cellsMg]; exact Nat.le_of_ble_eq_true rfl) hf
    rw [Tryd.cellsN3] at g7
    obtain ⟨_, _, g7, _⟩ := g7
    obtain ⟨k7, e7, _, z7⟩ := DataW.trod_int Tryd.underlying3 g7
    simp at e7
    have g8 := Rl.trod_leaf (e := 38) (o := 8) [5] (by kernel_rfl) (by kernel_rfl) (by rw [Tryd.cellsMg]; exact Nat.le_of_ble_eq_true rfl) hf
    rw [Tryd.cellsYb] at g8
    obtain ⟨_, _, g8, _⟩ := g8
    obtain ⟨u, b, e8, hb⟩ := read_bytes_cs (by kernel_rfl) Tryd.underlying38 Tryd.underlying5 g8
    simp at e8
    obtain ⟨da, dc, rfl⟩ := Raw.slice hb
    exact ⟨⟨⟨k0, k1, k2, k3, k4, k5, k6, k7⟩, da, b.length, dc⟩, by simp [encMg, e0, e1, e2, e3, e4, e5, e6, e7, e8], wf_i64m z2⟩
set_option maxRecDepth 100000 in
theorem read_msgs {H : Type} {enc : TypeId × Value → H} {W : World} {base : Nat} {v : Value} {d : DataW H} {p : List MemPlace} (hv : Value.okWide Tryd.prog W .any base 49 v)
    (h : DataW.Trod enc Tryd.prog W 0 (fun _ => true) true 49 v d p) : ∃ L : List Mg, Msgs W v L := by
  obtain ⟨l, h2, h3⟩ := Go.Rd.read_val (rd := encMg) (Rl := fun y => Rv.fits y.m.kind) Tryd.cellsMg (by omega) encMg_len Tryd.underlying49 (fun y _ u hu => by
    simp [encMg] at hu
    rcases hu with rfl | rfl | rfl | rfl | rfl | rfl | rfl | rfl | rfl <;> rfl) (fun fuel cs x hx => msg_of fuel cs x hx) hv h
  exact ⟨l, h2, h3⟩
end Go.Proofs.YthmnhpakgjnngaaDoor
