/- time: the arguments read -/
import Derived.Test.YtdelemmoiaiooaaVa
namespace Go.Proofs.Ytdelemmoiaiooaa
open Go.ChangeShapes Go.WideShapes Go.ChangeAt Go.RowKit Go.Bs Go.Cl Go.Rw Go.Rd Go.Deep Go.Joins Go.Ti Go.Wi
set_option maxRecDepth 100000 in
theorem Try.own : ownKnob Try.prog.godebug = none := by kernel_rfl
set_option maxRecDepth 100000 in
theorem Try.laidOut : laidOutB Try.prog = true := by kernel_rfl
theorem Try.cells3' : Try.prog.cellsOf 3 = 1 := by kernel_rfl
theorem Try.cells22' : Try.prog.cellsOf 22 = 1 := by kernel_rfl
theorem Try.cells24' : Try.prog.cellsOf 24 = 1 := by kernel_rfl
theorem Try.cells26' : Try.prog.cellsOf 26 = 1 := by kernel_rfl
theorem Try.cells28' : Try.prog.cellsOf 28 = 9 := by kernel_rfl
set_option maxRecDepth 100000 in
theorem wf_bounds {n : Int} (h : (Lit.int .i64 n).wf = true) : -9223372036854775808 ≤ n ∧ n ≤ 9223372036854775807 := by
  simpa [Lit.wf, IntKind.min, IntKind.max, IntKind.signed, IntKind.bits] using h
set_option maxRecDepth 100000 in
theorem read_int {H : Type} {enc : TypeId × Value → H} {W : World} {base : Nat} {v : Value} {d : DataW H} {p : List MemPlace} (hv : Value.okWide Try.prog W .any base 3 v)
    (h : DataW.Trod enc Try.prog W 0 (fun _ => true) true 3 v d p) : ∃ n : Int, v = .int .i64 n ∧ -9223372036854775808 ≤ n ∧ n ≤ 9223372036854775807 := by
  obtain ⟨n, rfl⟩ := okWide_int Try.underlying3 hv
  obtain ⟨fuel, hf⟩ := h
  obtain ⟨m, e, _, wb⟩ := DataW.trod_int Try.underlying3 hf
  simp [Value.cells] at e
  subst e
  exact ⟨_, rfl, wf_bounds wb⟩
set_option maxRecDepth 100000 in
theorem read_state {H : Type} {enc : TypeId × Value → H} {W : World} {base : Nat} {v : Value} {d : DataW H} {p : List MemPlace} (hv : Value.okWide Try.prog W .any base 24 v)
    (h : DataW.Trod enc Try.prog W 0 (fun _ => true) true 24 v d p) : ∃ (u : Value) (l : List Int), v = .agg #[u] ∧ SlT W u l ∧ ∀ x ∈ l, Wi.fits x := by
  obtain ⟨cs, rfl, hs⟩ := okWide_struct Try.underlying24 hv
  rw [Try.cells24'] at hs
  obtain ⟨l⟩ := cs
  match l, hs with
  | [c0], _ =>
    obtain ⟨fuel, hf⟩ := h
    have hf : DataW.trod enc Try.prog W 0 (fun _ => true) true fuel 24 [c0] = some (d, p) := hf
    have g0 := Rl.trod_leaf (e := 22) (o := 0) [0] (by kernel_rfl) (by kernel_rfl) (by rw [Try.cells24']; exact Nat.le_of_ble_eq_true rfl) hf
    rw [Try.cells22'] at g0
    obtain ⟨_, _, g0, _⟩ := g0
    obtain ⟨v, l, h1, h2, h3⟩ := read_cs (rd := encT) (Rl := fun x => Wi.fits x) Try.cells3' (by omega) encT_len Try.underlying22 (fun y _ u hu => by simp [encT] at hu; rw [hu]; rfl) (fun fuel cs x hx => by
      obtain ⟨b, rfl, _, wb⟩ := DataW.trod_int Try.underlying3 hx
      exact ⟨b, rfl, wf_bounds wb⟩) g0
    simp at h1
    subst h1
    exact ⟨_, l, rfl, h2, h3⟩
set_option maxRecDepth 100000 in
set_option maxHeartbeats 1000000 in
theorem read_msg {H : Type} {enc : TypeId × Value → H} {W : World} {base : Nat} {v : Value} {d : DataW H} {p : List MemPlace} (hv : Value.okWide Try.prog W .any base 28 v) (h : DataW.Trod enc Try.prog W 0 (fun _ => true) true 28 v d p) :
    ∃ (n0 n1 n2 n3 n4 n5 n6 n7 : Int) (da : Option Addr) (dc : Nat) (l : List UInt8), v = .agg #[.int .i64 n0, .int .i64 n1, .int .i64 n2, .int .i64 n3, .int .i64 n4, .int .i64 n5, .int .i64 n6, .int .i64 n7, .slice da l.length dc] ∧ Bytes [] W (.slice da l.length dc) l := by
  obtain ⟨cs, rfl, hs⟩ := okWide_struct Try.underlying28 hv
  rw [Try.cells28'] at hs
  obtain ⟨l⟩ := cs
  match l, hs with
  | [c0, c1, c2, c3, c4, c5, c6, c7, c8], _ =>
    obtain ⟨fuel, hf⟩ := h
    have hf : DataW.trod enc Try.prog W 0 (fun _ => true) true fuel 28 [c0, c1, c2, c3, c4, c5, c6, c7, c8] = some (d, p) := hf
    have g0 := Rl.trod_leaf (e := 3) (o := 0) [0] (by kernel_rfl) (by kernel_rfl) (by rw [Try.cells28']; exact Nat.le_of_ble_eq_true rfl) hf
    rw [Try.cells3'] at g0
    obtain ⟨_, _, g0, _⟩ := g0
    obtain ⟨k0, e0, _⟩ := DataW.trod_int Try.underlying3 g0
    simp at e0
    have g1 := Rl.trod_leaf (e := 3) (o := 1) [1] (by kernel_rfl) (by kernel_rfl) (by rw [Try.cells28']; exact Nat.le_of_ble_eq_true rfl) hf
    rw [Try.cells3'] at g1
    obtain ⟨_, _, g1, _⟩ := g1
    obtain ⟨k1, e1, _⟩ := DataW.trod_int Try.underlying3 g1
    simp at e1
    have g2 := Rl.trod_leaf (e := 3) (o := 2) [2] (by kernel_rfl) (by kernel_rfl) (by rw [Try.cells28']; exact Nat.le_of_ble_eq_true rfl) hf
    rw [Try.cells3'] at g2
    obtain ⟨_, _, g2, _⟩ := g2
    obtain ⟨k2, e2, _⟩ := DataW.trod_int Try.underlying3 g2
    simp at e2
    have g3 := Rl.trod_leaf (e := 3) (o := 3) [3] (by kernel_rfl) (by kernel_rfl) (by rw [Try.cells28']; exact Nat.le_of_ble_eq_true rfl) hf
    rw [Try.cells3'] at g3
    obtain ⟨_, _, g3, _⟩ := g3
    obtain ⟨k3, e3, _⟩ := DataW.trod_int Try.underlying3 g3
    simp at e3
    have g4 := Rl.trod_leaf (e := 3) (o := 4) [4, 0] (by kernel_rfl) (by kernel_rfl) (by rw [Try.cells28']; exact Nat.le_of_ble_eq_true rfl) hf
    rw [Try.cells3'] at g4
    obtain ⟨_, _, g4, _⟩ := g4
    obtain ⟨k4, e4, _⟩ := DataW.trod_int Try.underlying3 g4
    simp at e4
    have g5 := Rl.trod_leaf (e := 3) (o := 5) [4, 1] (by kernel_rfl) (by kernel_rfl) (by rw [Try.cells28']; exact Nat.le_of_ble_eq_true rfl) hf
    rw [Try.cells3'] at g5
    obtain ⟨_, _, g5, _⟩ := g5
    obtain ⟨k5, e5, _⟩ := DataW.trod_int Try.underlying3 g5
    simp at e5
    have g6 := Rl.trod_leaf (e := 3) (o := 6) [4, 2] (by kernel_rfl) (by kernel_rfl) (by rw [Try.cells28']; exact Nat.le_of_ble_eq_true rfl) hf
    rw [Try.cells3'] at g6
    obtain ⟨_, _, g6, _⟩ := g6
    obtain ⟨k6, e6, _⟩ := DataW.trod_int Try.underlying3 g6
    simp at e6
    have g7 := Rl.trod_leaf (e := 3) (o := 7) [4, 3] (by kernel_rfl) (by kernel_rfl) (by rw [Try.cells28']; exact Nat.le_of_ble_eq_true rfl) hf
    rw [Try.cells3'] at g7
    obtain ⟨_, _, g7, _⟩ := g7
    obtain ⟨k7, e7, _⟩ := DataW.trod_int Try.underlying3 g7
    simp at e7
    have g8 := Rl.trod_leaf (e := 26) (o := 8) [5] (by kernel_rfl) (by kernel_rfl) (by rw [Try.cells28']; exact Nat.le_of_ble_eq_true rfl) hf
    rw [Try.cells26'] at g8
    obtain ⟨_, _, g8, _⟩ := g8
    obtain ⟨u, b, e8, hb⟩ := read_bytes_cs (by kernel_rfl) Try.underlying26 Try.underlying5 g8
    simp at e8
    subst e8
    obtain ⟨da, dc, hu⟩ := Raw.slice hb
    subst hu
    exact ⟨k0, k1, k2, k3, k4, k5, k6, k7, da, dc, b, by rw [e0, e1, e2, e3, e4, e5, e6, e7], hb⟩
end Go.Proofs.Ytdelemmoiaiooaa
