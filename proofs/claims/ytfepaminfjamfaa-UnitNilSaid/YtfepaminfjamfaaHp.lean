/- UnitFailed, UnitNil: arguments, read -/
import Derived.Test.YtfepaminfjamfaaHi
import Derived.Test.YtfepaminfjamfaaM1
namespace Go.Proofs.Ytfepaminfjamfaa
open Go.ChangeShapes Go.WideShapes Go.ChangeAt Go.RowKit Go.Bs Go.Cl Go.Rw Go.Rd Go.Deep Go.Joins Go.Fa Go.Im
variable {H : Type} {enc : TypeId × Value → H} {W : World}
theorem Try.own : ownKnob Try.prog.godebug = none := by kernel_rfl
theorem Try.laidOut : laidOutB Try.prog = true := by kernel_rfl
theorem Try.cells3' : Try.prog.cellsOf 3 = 1 := by kernel_rfl
theorem Try.cells28' : Try.prog.cellsOf 28 = 1 := by kernel_rfl
theorem Try.cells4' : Try.prog.cellsOf 4 = 1 := by kernel_rfl
theorem Try.cells5' : Try.prog.cellsOf 5 = 1 := by kernel_rfl
theorem Try.cells22' : Try.prog.cellsOf 22 = 1 := by kernel_rfl
theorem Try.cells27' : Try.prog.cellsOf 27 = 9 := by kernel_rfl
theorem Try.cells33' : Try.prog.cellsOf 33 = 29 := by kernel_rfl
theorem Try.bytes5 : Try.prog.bytesOf 5 = 1 := by kernel_rfl
set_option maxRecDepth 100000 in
theorem read_by {H : Type} {enc : TypeId × Value → H} {W : World} {base : Nat} {v : Value} {d : DataW H} {p : List MemPlace} (hv : Value.okWide Try.prog W .any base 22 v)
    (h : DataW.Trod enc Try.prog W 0 (fun _ => true) true 22 v d p) : ∃ l : List UInt8, Bytes [] W v l := read_bytes Try.cells5' Try.underlying22 Try.underlying5 hv h
set_option maxRecDepth 100000 in
theorem agg_of9 {cs : Array Value} (h : cs.size = 9) : ∃ a0 a1 a2 a3 a4 a5 a6 a7 a8, cs = #[a0, a1, a2, a3, a4, a5, a6, a7, a8] := by
  obtain ⟨l⟩ := cs
  match l, h with
  | [a0, a1, a2, a3, a4, a5, a6, a7, a8], _ => exact ⟨a0, a1, a2, a3, a4, a5, a6, a7, a8, rfl⟩
set_option maxRecDepth 100000 in
theorem agg_of29 {cs : Array Value} (h : cs.size = 29) : ∃ a0 a1 a2 a3 a4 a5 a6 a7 a8 a9 a10 a11 a12 a13 a14 a15 a16 a17 a18 a19 a20 a21 a22 a23 a24 a25 a26 a27 a28, cs = #[a0, a1, a2, a3, a4, a5, a6, a7, a8, a9, a10, a11, a12, a13, a14, a15, a16, a17, a18, a19, a20, a21, a22, a23, a24, a25, a26, a27, a28] := by
  obtain ⟨l⟩ := cs
  match l, h with
  | [a0, a1, a2, a3, a4, a5, a6, a7, a8, a9, a10, a11, a12, a13, a14, a15, a16, a17, a18, a19, a20, a21, a22, a23, a24, a25, a26, a27, a28], _ => exact ⟨a0, a1, a2, a3, a4, a5, a6, a7, a8, a9, a10, a11, a12, a13, a14, a15, a16, a17, a18, a19, a20, a21, a22, a23, a24, a25, a26, a27, a28, rfl⟩
theorem wf_bounds {n : Int} (h : (Lit.int .i64 n).wf = true) : -9223372036854775808 ≤ n ∧ n ≤ 9223372036854775807 := by
  simpa [Lit.wf, IntKind.min, IntKind.max, IntKind.signed, IntKind.bits] using h
theorem slice_reach {fuel : Nat} {a : Option Addr} {len cap : Nat} {y : DataW H × List MemPlace} (h : DataW.trod enc Try.prog W 0 (fun _ => true) true fuel 22 [.slice a len cap] = some y) (hw : ∀ n ∈ y.1.weights Try.prog 22, n ≤ reachBytes) : len ≤ reachBytes := by
  rcases open_slice Try.underlying22 h with ⟨hcs, _⟩ | ⟨a', len', cap', m, n, D, Pl, hcs, _, _, _, _, rfl, _⟩
  · simp at hcs
    rw [hcs.2.1]; exact Nat.zero_le _
  · simp at hcs
    obtain ⟨_, rfl, _⟩ := hcs
    have := hw _ (by simp only [DataW.weights, Try.underlying22]; exact .head _)
    rw [Try.bytes5] at this
    simp at this
    omega
set_option maxRecDepth 100000 in
theorem read_msg {base : Nat} {v : Value} {d : DataW H} {p : List MemPlace} (hv : Value.okWide Try.prog W .any base 27 v) (h : DataW.Trod enc Try.prog W 0 (fun _ => true) true 27 v d p) :
    ∃ (n0 n1 n2 n3 n4 n5 n6 n7 : Int) (ma : Option Addr) (ml mc : Nat), v = .agg #[.int .i64 n0, .int .i64 n1, .int .i64 n2, .int .i64 n3, .int .i64 n4, .int .i64 n5, .int .i64 n6, .int .i64 n7, .slice ma ml mc] := by
  obtain ⟨cs, rfl, hs⟩ := okWide_struct Try.underlying27 hv
  rw [Try.cells27'] at hs
  obtain ⟨c0, c1, c2, c3, c4, c5, c6, c7, c8, rfl⟩ := agg_of9 hs
  obtain ⟨fuel, hf⟩ := h
  have hf : DataW.trod enc Try.prog W 0 (fun _ => true) true fuel 27 [c0, c1, c2, c3, c4, c5, c6, c7, c8] = some (d, p) := hf
  have g0 : ∃ y m, DataW.trod enc Try.prog W 0 (fun _ => true) true m 3 [c0] = some y ∧ ∀ n ∈ y.1.weights Try.prog 3, n ∈ d.weights Try.prog 27 := by
    have g := Rl.trod_leaf (e := 3) (o := 0) [0] (by kernel_rfl) (by kernel_rfl) (by rw [Try.cells27']; exact Nat.le_refl _) hf
    rw [Try.cells3'] at g
    exact g
  obtain ⟨_, _, g0, _⟩ := g0
  obtain ⟨k0, e0, _, w0⟩ := DataW.trod_int Try.underlying3 g0
  cases e0
  have g1 : ∃ y m, DataW.trod enc Try.prog W 0 (fun _ => true) true m 3 [c1] = some y ∧ ∀ n ∈ y.1.weights Try.prog 3, n ∈ d.weights Try.prog 27 := by
    have g := Rl.trod_leaf (e := 3) (o := 1) [1] (by kernel_rfl) (by kernel_rfl) (by rw [Try.cells27']; exact Nat.le_refl _) hf
    rw [Try.cells3'] at g
    exact g
  obtain ⟨_, _, g1, _⟩ := g1
  obtain ⟨k1, e1, _, w1⟩ := DataW.trod_int Try.underlying3 g1
  cases e1
  have g2 : ∃ y m, DataW.trod enc Try.prog W 0 (fun _ => true) true m 3 [c2] = some y ∧ ∀ n ∈ y.1.weights Try.prog 3, n ∈ d.weights Try.prog 27 := by
    have g := Rl.trod_leaf (e := 3) (o := 2) [2] (by kernel_rfl) (by kernel_rfl) (by rw [Try.cells27']; exact Nat.le_refl _) hf
    rw [Try.cells3'] at g
    exact g
  obtain ⟨_, _, g2, _⟩ := g2
  obtain ⟨k2, e2, _, w2⟩ := DataW.trod_int Try.underlying3 g2
  cases e2
  have g3 : ∃ y m, DataW.trod enc Try.prog W 0 (fun _ => true) true m 3 [c3] = some y ∧ ∀ n ∈ y.1.weights Try.prog 3, n ∈ d.weights Try.prog 27 := by
    have g := Rl.trod_leaf (e := 3) (o := 3) [3] (by kernel_rfl) (by kernel_rfl) (by rw [Try.cells27']; exact Nat.le_refl _) hf
    rw [Try.cells3'] at g
    exact g
  obtain ⟨_, _, g3, _⟩ := g3
  obtain ⟨k3, e3, _, w3⟩ := DataW.trod_int Try.underlying3 g3
  cases e3
  have g4 : ∃ y m, DataW.trod enc Try.prog W 0 (fun _ => true) true m 3 [c4] = some y ∧ ∀ n ∈ y.1.weights Try.prog 3, n ∈ d.weights Try.prog 27 := by
    have g := Rl.trod_leaf (e := 3) (o := 4) [4, 0] (by kernel_rfl) (by kernel_rfl) (by rw [Try.cells27']; exact Nat.le_refl _) hf
    rw [Try.cells3'] at g
    exact g
  obtain ⟨_, _, g4, _⟩ := g4
  obtain ⟨k4, e4, _, w4⟩ := DataW.trod_int Try.underlying3 g4
  cases e4
  have g5 : ∃ y m, DataW.trod enc Try.prog W 0 (fun _ => true) true m 3 [c5] = some y ∧ ∀ n ∈ y.1.weights Try.prog 3, n ∈ d.weights Try.prog 27 := by
    have g := Rl.trod_leaf (e := 3) (o := 5) [4, 1] (by kernel_rfl) (by kernel_rfl) (by rw [Try.cells27']; exact Nat.le_refl _) hf
    rw [Try.cells3'] at g
    exact g
  obtain ⟨_, _, g5, _⟩ := g5
  obtain ⟨k5, e5, _, w5⟩ := DataW.trod_int Try.underlying3 g5
  cases e5
  have g6 : ∃ y m, DataW.trod enc Try.prog W 0 (fun _ => true) true m 3 [c6] = some y ∧ ∀ n ∈ y.1.weights Try.prog 3, n ∈ d.weights Try.prog 27 := by
    have g := Rl.trod_leaf (e := 3) (o := 6) [4, 2] (by kernel_rfl) (by kernel_rfl) (by rw [Try.cells27']; exact Nat.le_refl _) hf
    rw [Try.cells3'] at g
    exact g
  obtain ⟨_, _, g6, _⟩ := g6
  obtain ⟨k6, e6, _, w6⟩ := DataW.trod_int Try.underlying3 g6
  cases e6
  have g7 : ∃ y m, DataW.trod enc Try.prog W 0 (fun _ => true) true m 3 [c7] = some y ∧ ∀ n ∈ y.1.weights Try.prog 3, n ∈ d.weights Try.prog 27 := by
    have g := Rl.trod_leaf (e := 3) (o := 7) [4, 3] (by kernel_rfl) (by kernel_rfl) (by rw [Try.cells27']; exact Nat.le_refl _) hf
    rw [Try.cells3'] at g
    exact g
  obtain ⟨_, _, g7, _⟩ := g7
  obtain ⟨k7, e7, _, w7⟩ := DataW.trod_int Try.underlying3 g7
  cases e7
  have g8 : ∃ y m, DataW.trod enc Try.prog W 0 (fun _ => true) true m 22 [c8] = some y ∧ ∀ n ∈ y.1.weights Try.prog 22, n ∈ d.weights Try.prog 27 := by
    have g := Rl.trod_leaf (e := 22) (o := 8) [5] (by kernel_rfl) (by kernel_rfl) (by rw [Try.cells27']; exact Nat.le_refl _) hf
    rw [Try.cells22'] at g
    exact g
  obtain ⟨y8, _, g8, u8⟩ := g8
  obtain ⟨s8, l8, e8, b8⟩ := read_bytes_cs Try.cells5' Try.underlying22 Try.underlying5 g8
  cases e8
  obtain ⟨p8, q8, rfl⟩ := Raw.slice b8
  exact ⟨k0, k1, k2, k3, k4, k5, k6, k7, p8, l8.length, q8, rfl⟩
set_option maxRecDepth 100000 in
theorem read_call {base : Nat} {v : Value} {d : DataW H} {p : List MemPlace} (hv : Value.okWide Try.prog W .any base 33 v) (h : DataW.Trod enc Try.prog W 0 (fun _ => true) true 33 v d p) (hw : ∀ n ∈ d.weights Try.prog 33, n ≤ reachBytes) :
    ∃ (c : CF) (ma ai ae bi be : Option Addr) (mc ac aec bc bec : Nat), v = .agg #[.int .i64 c.op, .int .i64 c.mode, .int .i64 c.p.c, .int .i64 c.p.n, .int .i64 c.p.e, .int .i64 c.p.k, .int .i64 c.p.s, .int .i64 c.p.pl, .int .i64 c.p.m, .int .i64 c.ms, .int .i64 c.md, .int .i64 c.mt, .int .i64 c.mq, .int .i64 c.m0, .int .i64 c.m1, .int .i64 c.m2, .int .i64 c.m3, .slice ma c.dl mc, .int .i64 c.a.en, .int .i64 c.a.st, .int .i64 c.a.er, .slice ai c.a.im.length ac, .slice ae c.a.ef.length aec, .int .i64 c.b.en, .int .i64 c.b.st, .int .i64 c.b.er, .slice bi c.b.im.length bc, .slice be c.b.ef.length bec, .bool c.pm] ∧ c.dl ≤ reachBytes ∧ c.a.im.length ≤ reachBytes ∧ c.a.ef.length ≤ reachBytes ∧ c.b.im.length ≤ reachBytes ∧ c.b.ef.length ≤ reachBytes ∧ -9223372036854775808 ≤ c.mq ∧ c.mq ≤ 9223372036854775807 ∧ Bytes [] W (.slice ai c.a.im.length ac) c.a.im ∧ Bytes [] W (.slice ae c.a.ef.length aec) c.a.ef ∧ Bytes [] W (.slice bi c.b.im.length bc) c.b.im ∧ Bytes [] W (.slice be c.b.ef.length bec) c.b.ef := by
  obtain ⟨cs, rfl, hs⟩ := okWide_struct Try.underlying33 hv
  rw [Try.cells33'] at hs
  obtain ⟨c0, c1, c2, c3, c4, c5, c6, c7, c8, c9, c10, c11, c12, c13, c14, c15, c16, c17, c18, c19, c20, c21, c22, c23, c24, c25, c26, c27, c28, rfl⟩ := agg_of29 hs
  obtain ⟨fuel, hf⟩ := h
  have hf : DataW.trod enc Try.prog W 0 (fun _ => true) true fuel 33 [c0, c1, c2, c3, c4, c5, c6, c7, c8, c9, c10, c11, c12, c13, c14, c15, c16, c17, c18, c19, c20, c21, c22, c23, c24, c25, c26, c27, c28] = some (d, p) := hf
  have g0 : ∃ y m, DataW.trod enc Try.prog W 0 (fun _ => true) true m 3 [c0] = some y ∧ ∀ n ∈ y.1.weights Try.prog 3, n ∈ d.weights Try.prog 33 := by
    have g := Rl.trod_leaf (e := 3) (o := 0) [0] (by kernel_rfl) (by kernel_rfl) (by rw [Try.cells33']; exact Nat.le_refl _) hf
    rw [Try.cells3'] at g
    exact g
  obtain ⟨_, _, g0, _⟩ := g0
  obtain ⟨k0, e0, _, w0⟩ := DataW.trod_int Try.underlying3 g0
  cases e0
  have g1 : ∃ y m, DataW.trod enc Try.prog W 0 (fun _ => true) true m 3 [c1] = some y ∧ ∀ n ∈ y.1.weights Try.prog 3, n ∈ d.weights Try.prog 33 := by
    have g := Rl.trod_leaf (e := 3) (o := 1) [1] (by kernel_rfl) (by kernel_rfl) (by rw [Try.cells33']; exact Nat.le_refl _) hf
    rw [Try.cells3'] at g
    exact g
  obtain ⟨_, _, g1, _⟩ := g1
  obtain ⟨k1, e1, _, w1⟩ := DataW.trod_int Try.underlying3 g1
  cases e1
  have g2 : ∃ y m, DataW.trod enc Try.prog W 0 (fun _ => true) true m 3 [c2] = some y ∧ ∀ n ∈ y.1.weights Try.prog 3, n ∈ d.weights Try.prog 33 := by
    have g := Rl.trod_leaf (e := 3) (o := 2) [2, 0] (by kernel_rfl) (by kernel_rfl) (by rw [Try.cells33']; exact Nat.le_refl _) hf
    rw [Try.cells3'] at g
    exact g
  obtain ⟨_, _, g2, _⟩ := g2
  obtain ⟨k2, e2, _, w2⟩ := DataW.trod_int Try.underlying3 g2
  cases e2
  have g3 : ∃ y m, DataW.trod enc Try.prog W 0 (fun _ => true) true m 3 [c3] = some y ∧ ∀ n ∈ y.1.weights Try.prog 3, n ∈ d.weights Try.prog 33 := by
    have g := Rl.trod_leaf (e := 3) (o := 3) [2, 1] (by kernel_rfl) (by kernel_rfl) (by rw [Try.cells33']; exact Nat.le_refl _) hf
    rw [Try.cells3'] at g
    exact g
  obtain ⟨_, _, g3, _⟩ := g3
  obtain ⟨k3, e3, _, w3⟩ := DataW.trod_int Try.underlying3 g3
  cases e3
  have g4 : ∃ y m, DataW.trod enc Try.prog W 0 (fun _ => true) true m 3 [c4] = some y ∧ ∀ n ∈ y.1.weights Try.prog 3, n ∈ d.weights Try.prog 33 := by
    have g := Rl.trod_leaf (e := 3) (o := 4) [2, 2] (by kernel_rfl) (by kernel_rfl) (by rw [Try.cells33']; exact Nat.le_refl _) hf
    rw [Try.cells3'] at g
    exact g
  obtain ⟨_, _, g4, _⟩ := g4
  obtain ⟨k4, e4, _, w4⟩ := DataW.trod_int Try.underlying3 g4
  cases e4
  have g5 : ∃ y m, DataW.trod enc Try.prog W 0 (fun _ => true) true m 3 [c5] = some y ∧ ∀ n ∈ y.1.weights Try.prog 3, n ∈ d.weights Try.prog 33 := by
    have g := Rl.trod_leaf (e := 3) (o := 5) [2, 3] (by kernel_rfl) (by kernel_rfl) (by rw [Try.cells33']; exact Nat.le_refl _) hf
    rw [Try.cells3'] at g
    exact g
  obtain ⟨_, _, g5, _⟩ := g5
  obtain ⟨k5, e5, _, w5⟩ := DataW.trod_int Try.underlying3 g5
  cases e5
  have g6 : ∃ y m, DataW.trod enc Try.prog W 0 (fun _ => true) true m 3 [c6] = some y ∧ ∀ n ∈ y.1.weights Try.prog 3, n ∈ d.weights Try.prog 33 := by
    have g := Rl.trod_leaf (e := 3) (o := 6) [2, 4] (by kernel_rfl) (by kernel_rfl) (by rw [Try.cells33']; exact Nat.le_refl _) hf
    rw [Try.cells3'] at g
    exact g
  obtain ⟨_, _, g6, _⟩ := g6
  obtain ⟨k6, e6, _, w6⟩ := DataW.trod_int Try.underlying3 g6
  cases e6
  have g7 : ∃ y m, DataW.trod enc Try.prog W 0 (fun _ => true) true m 3 [c7] = some y ∧ ∀ n ∈ y.1.weights Try.prog 3, n ∈ d.weights Try.prog 33 := by
    have g := Rl.trod_leaf (e := 3) (o := 7) [2, 5] (by kernel_rfl) (by kernel_rfl) (by rw [Try.cells33']; exact Nat.le_refl _) hf
    rw [Try.cells3'] at g
    exact g
  obtain ⟨_, _, g7, _⟩ := g7
  obtain ⟨k7, e7, _, w7⟩ := DataW.trod_int Try.underlying3 g7
  cases e7
  have g8 : ∃ y m, DataW.trod enc Try.prog W 0 (fun _ => true) true m 3 [c8] = some y ∧ ∀ n ∈ y.1.weights Try.prog 3, n ∈ d.weights Try.prog 33 := by
    have g := Rl.trod_leaf (e := 3) (o := 8) [2, 6] (by kernel_rfl) (by kernel_rfl) (by rw [Try.cells33']; exact Nat.le_refl _) hf
    rw [Try.cells3'] at g
    exact g
  obtain ⟨_, _, g8, _⟩ := g8
  obtain ⟨k8, e8, _, w8⟩ := DataW.trod_int Try.underlying3 g8
  cases e8
  have g9 : ∃ y m, DataW.trod enc Try.prog W 0 (fun _ => true) true m 3 [c9] = some y ∧ ∀ n ∈ y.1.weights Try.prog 3, n ∈ d.weights Try.prog 33 := by
    have g := Rl.trod_leaf (e := 3) (o := 9) [3, 0] (by kernel_rfl) (by kernel_rfl) (by rw [Try.cells33']; exact Nat.le_refl _) hf
    rw [Try.cells3'] at g
    exact g
  obtain ⟨_, _, g9, _⟩ := g9
  obtain ⟨k9, e9, _, w9⟩ := DataW.trod_int Try.underlying3 g9
  cases e9
  have g10 : ∃ y m, DataW.trod enc Try.prog W 0 (fun _ => true) true m 3 [c10] = some y ∧ ∀ n ∈ y.1.weights Try.prog 3, n ∈ d.weights Try.prog 33 := by
    have g := Rl.trod_leaf (e := 3) (o := 10) [3, 1] (by kernel_rfl) (by kernel_rfl) (by rw [Try.cells33']; exact Nat.le_refl _) hf
    rw [Try.cells3'] at g
    exact g
  obtain ⟨_, _, g10, _⟩ := g10
  obtain ⟨k10, e10, _, w10⟩ := DataW.trod_int Try.underlying3 g10
  cases e10
  have g11 : ∃ y m, DataW.trod enc Try.prog W 0 (fun _ => true) true m 3 [c11] = some y ∧ ∀ n ∈ y.1.weights Try.prog 3, n ∈ d.weights Try.prog 33 := by
    have g := Rl.trod_leaf (e := 3) (o := 11) [3, 2] (by kernel_rfl) (by kernel_rfl) (by rw [Try.cells33']; exact Nat.le_refl _) hf
    rw [Try.cells3'] at g
    exact g
  obtain ⟨_, _, g11, _⟩ := g11
  obtain ⟨k11, e11, _, w11⟩ := DataW.trod_int Try.underlying3 g11
  cases e11
  have g12 : ∃ y m, DataW.trod enc Try.prog W 0 (fun _ => true) true m 3 [c12] = some y ∧ ∀ n ∈ y.1.weights Try.prog 3, n ∈ d.weights Try.prog 33 := by
    have g := Rl.trod_leaf (e := 3) (o := 12) [3, 3] (by kernel_rfl) (by kernel_rfl) (by rw [Try.cells33']; exact Nat.le_refl _) hf
    rw [Try.cells3'] at g
    exact g
  obtain ⟨_, _, g12, _⟩ := g12
  obtain ⟨k12, e12, _, w12⟩ := DataW.trod_int Try.underlying3 g12
  cases e12
  have g13 : ∃ y m, DataW.trod enc Try.prog W 0 (fun _ => true) true m 3 [c13] = some y ∧ ∀ n ∈ y.1.weights Try.prog 3, n ∈ d.weights Try.prog 33 := by
    have g := Rl.trod_leaf (e := 3) (o := 13) [3, 4, 0] (by kernel_rfl) (by kernel_rfl) (by rw [Try.cells33']; exact Nat.le_refl _) hf
    rw [Try.cells3'] at g
    exact g
  obtain ⟨_, _, g13, _⟩ := g13
  obtain ⟨k13, e13, _, w13⟩ := DataW.trod_int Try.underlying3 g13
  cases e13
  have g14 : ∃ y m, DataW.trod enc Try.prog W 0 (fun _ => true) true m 3 [c14] = some y ∧ ∀ n ∈ y.1.weights Try.prog 3, n ∈ d.weights Try.prog 33 := by
    have g := Rl.trod_leaf (e := 3) (o := 14) [3, 4, 1] (by kernel_rfl) (by kernel_rfl) (by rw [Try.cells33']; exact Nat.le_refl _) hf
    rw [Try.cells3'] at g
    exact g
  obtain ⟨_, _, g14, _⟩ := g14
  obtain ⟨k14, e14, _, w14⟩ := DataW.trod_int Try.underlying3 g14
  cases e14
  have g15 : ∃ y m, DataW.trod enc Try.prog W 0 (fun _ => true) true m 3 [c15] = some y ∧ ∀ n ∈ y.1.weights Try.prog 3, n ∈ d.weights Try.prog 33 := by
    have g := Rl.trod_leaf (e := 3) (o := 15) [3, 4, 2] (by kernel_rfl) (by kernel_rfl) (by rw [Try.cells33']; exact Nat.le_refl _) hf
    rw [Try.cells3'] at g
    exact g
  obtain ⟨_, _, g15, _⟩ := g15
  obtain ⟨k15, e15, _, w15⟩ := DataW.trod_int Try.underlying3 g15
  cases e15
  have g16 : ∃ y m, DataW.trod enc Try.prog W 0 (fun _ => true) true m 3 [c16] = some y ∧ ∀ n ∈ y.1.weights Try.prog 3, n ∈ d.weights Try.prog 33 := by
    have g := Rl.trod_leaf (e := 3) (o := 16) [3, 4, 3] (by kernel_rfl) (by kernel_rfl) (by rw [Try.cells33']; exact Nat.le_refl _) hf
    rw [Try.cells3'] at g
    exact g
  obtain ⟨_, _, g16, _⟩ := g16
  obtain ⟨k16, e16, _, w16⟩ := DataW.trod_int Try.underlying3 g16
  cases e16
  have g17 : ∃ y m, DataW.trod enc Try.prog W 0 (fun _ => true) true m 22 [c17] = some y ∧ ∀ n ∈ y.1.weights Try.prog 22, n ∈ d.weights Try.prog 33 := by
    have g := Rl.trod_leaf (e := 22) (o := 17) [3, 5] (by kernel_rfl) (by kernel_rfl) (by rw [Try.cells33']; exact Nat.le_refl _) hf
    rw [Try.cells22'] at g
    exact g
  obtain ⟨y17, _, g17, u17⟩ := g17
  obtain ⟨s17, l17, e17, b17⟩ := read_bytes_cs Try.cells5' Try.underlying22 Try.underlying5 g17
  cases e17
  obtain ⟨p17, q17, rfl⟩ := Raw.slice b17
  have g18 : ∃ y m, DataW.trod enc Try.prog W 0 (fun _ => true) true m 3 [c18] = some y ∧ ∀ n ∈ y.1.weights Try.prog 3, n ∈ d.weights Try.prog 33 := by
    have g := Rl.trod_leaf (e := 3) (o := 18) [4, 0, 0] (by kernel_rfl) (by kernel_rfl) (by rw [Try.cells33']; exact Nat.le_refl _) hf
    rw [Try.cells3'] at g
    exact g
  obtain ⟨_, _, g18, _⟩ := g18
  obtain ⟨k18, e18, _, w18⟩ := DataW.trod_int Try.underlying3 g18
  cases e18
  have g19 : ∃ y m, DataW.trod enc Try.prog W 0 (fun _ => true) true m 3 [c19] = some y ∧ ∀ n ∈ y.1.weights Try.prog 3, n ∈ d.weights Try.prog 33 := by
    have g := Rl.trod_leaf (e := 3) (o := 19) [4, 0, 1] (by kernel_rfl) (by kernel_rfl) (by rw [Try.cells33']; exact Nat.le_refl _) hf
    rw [Try.cells3'] at g
    exact g
  obtain ⟨_, _, g19, _⟩ := g19
  obtain ⟨k19, e19, _, w19⟩ := DataW.trod_int Try.underlying3 g19
  cases e19
  have g20 : ∃ y m, DataW.trod enc Try.prog W 0 (fun _ => true) true m 28 [c20] = some y ∧ ∀ n ∈ y.1.weights Try.prog 28, n ∈ d.weights Try.prog 33 := by
    have g := Rl.trod_leaf (e := 28) (o := 20) [4, 0, 2] (by kernel_rfl) (by kernel_rfl) (by rw [Try.cells33']; exact Nat.le_refl _) hf
    rw [Try.cells28'] at g
    exact g
  obtain ⟨_, _, g20, _⟩ := g20
  obtain ⟨k20, e20, _, w20⟩ := DataW.trod_int Try.underlying28 g20
  cases e20
  have g21 : ∃ y m, DataW.trod enc Try.prog W 0 (fun _ => true) true m 22 [c21] = some y ∧ ∀ n ∈ y.1.weights Try.prog 22, n ∈ d.weights Try.prog 33 := by
    have g := Rl.trod_leaf (e := 22) (o := 21) [4, 0, 3] (by kernel_rfl) (by kernel_rfl) (by rw [Try.cells33']; exact Nat.le_refl _) hf
    rw [Try.cells22'] at g
    exact g
  obtain ⟨y21, _, g21, u21⟩ := g21
  obtain ⟨s21, l21, e21, b21⟩ := read_bytes_cs Try.cells5' Try.underlying22 Try.underlying5 g21
  cases e21
  obtain ⟨p21, q21, rfl⟩ := Raw.slice b21
  have g22 : ∃ y m, DataW.trod enc Try.prog W 0 (fun _ => true) true m 22 [c22] = some y ∧ ∀ n ∈ y.1.weights Try.prog 22, n ∈ d.weights Try.prog 33 := by
    have g := Rl.trod_leaf (e := 22) (o := 22) [4, 0, 4] (by kernel_rfl) (by kernel_rfl) (by rw [Try.cells33']; exact Nat.le_refl _) hf
    rw [Try.cells22'] at g
    exact g
  obtain ⟨y22, _, g22, u22⟩ := g22
  obtain ⟨s22, l22, e22, b22⟩ := read_bytes_cs Try.cells5' Try.underlying22 Try.underlying5 g22
  cases e22
  obtain ⟨p22, q22, rfl⟩ := Raw.slice b22
  have g23 : ∃ y m, DataW.trod enc Try.prog W 0 (fun _ => true) true m 3 [c23] = some y ∧ ∀ n ∈ y.1.weights Try.prog 3, n ∈ d.weights Try.prog 33 := by
    have g := Rl.trod_leaf (e := 3) (o := 23) [4, 1, 0] (by kernel_rfl) (by kernel_rfl) (by rw [Try.cells33']; exact Nat.le_refl _) hf
    rw [Try.cells3'] at g
    exact g
  obtain ⟨_, _, g23, _⟩ := g23
  obtain ⟨k23, e23, _, w23⟩ := DataW.trod_int Try.underlying3 g23
  cases e23
  have g24 : ∃ y m, DataW.trod enc Try.prog W 0 (fun _ => true) true m 3 [c24] = some y ∧ ∀ n ∈ y.1.weights Try.prog 3, n ∈ d.weights Try.prog 33 := by
    have g := Rl.trod_leaf (e := 3) (o := 24) [4, 1, 1] (by kernel_rfl) (by kernel_rfl) (by rw [Try.cells33']; exact Nat.le_refl _) hf
    rw [Try.cells3'] at g
    exact g
  obtain ⟨_, _, g24, _⟩ := g24
  obtain ⟨k24, e24, _, w24⟩ := DataW.trod_int Try.underlying3 g24
  cases e24
  have g25 : ∃ y m, DataW.trod enc Try.prog W 0 (fun _ => true) true m 28 [c25] = some y ∧ ∀ n ∈ y.1.weights Try.prog 28, n ∈ d.weights Try.prog 33 := by
    have g := Rl.trod_leaf (e := 28) (o := 25) [4, 1, 2] (by kernel_rfl) (by kernel_rfl) (by rw [Try.cells33']; exact Nat.le_refl _) hf
    rw [Try.cells28'] at g
    exact g
  obtain ⟨_, _, g25, _⟩ := g25
  obtain ⟨k25, e25, _, w25⟩ := DataW.trod_int Try.underlying28 g25
  cases e25
  have g26 : ∃ y m, DataW.trod enc Try.prog W 0 (fun _ => true) true m 22 [c26] = some y ∧ ∀ n ∈ y.1.weights Try.prog 22, n ∈ d.weights Try.prog 33 := by
    have g := Rl.trod_leaf (e := 22) (o := 26) [4, 1, 3] (by kernel_rfl) (by kernel_rfl) (by rw [Try.cells33']; exact Nat.le_refl _) hf
    rw [Try.cells22'] at g
    exact g
  obtain ⟨y26, _, g26, u26⟩ := g26
  obtain ⟨s26, l26, e26, b26⟩ := read_bytes_cs Try.cells5' Try.underlying22 Try.underlying5 g26
  cases e26
  obtain ⟨p26, q26, rfl⟩ := Raw.slice b26
  have g27 : ∃ y m, DataW.trod enc Try.prog W 0 (fun _ => true) true m 22 [c27] = some y ∧ ∀ n ∈ y.1.weights Try.prog 22, n ∈ d.weights Try.prog 33 := by
    have g := Rl.trod_leaf (e := 22) (o := 27) [4, 1, 4] (by kernel_rfl) (by kernel_rfl) (by rw [Try.cells33']; exact Nat.le_refl _) hf
    rw [Try.cells22'] at g
    exact g
  obtain ⟨y27, _, g27, u27⟩ := g27
  obtain ⟨s27, l27, e27, b27⟩ := read_bytes_cs Try.cells5' Try.underlying22 Try.underlying5 g27
  cases e27
  obtain ⟨p27, q27, rfl⟩ := Raw.slice b27
  have g28 : ∃ y m, DataW.trod enc Try.prog W 0 (fun _ => true) true m 4 [c28] = some y ∧ ∀ n ∈ y.1.weights Try.prog 4, n ∈ d.weights Try.prog 33 := by
    have g := Rl.trod_leaf (e := 4) (o := 28) [5] (by kernel_rfl) (by kernel_rfl) (by rw [Try.cells33']; exact Nat.le_refl _) hf
    rw [Try.cells4'] at g
    exact g
  obtain ⟨_, _, g28, _⟩ := g28
  obtain ⟨k28, e28, _⟩ := DataW.trod_bool Try.underlying4 g28
  cases e28
  exact ⟨⟨k0, k1, ⟨k2, k3, k4, k5, k6, k7, k8⟩, k9, k10, k11, k12, k13, k14, k15, k16, l17.length, ⟨k18, k19, k20, l21, l22⟩, ⟨k23, k24, k25, l26, l27⟩, k28⟩, p17, p21, p22, p26, p27, q17, q21, q22, q26, q27, rfl, slice_reach g17 (fun n hn => hw n (u17 n hn)), slice_reach g21 (fun n hn => hw n (u21 n hn)), slice_reach g22 (fun n hn => hw n (u22 n hn)), slice_reach g26 (fun n hn => hw n (u26 n hn)), slice_reach g27 (fun n hn => hw n (u27 n hn)), (wf_bounds w12).1, (wf_bounds w12).2, b21, b22, b26, b27⟩
end Go.Proofs.Ytfepaminfjamfaa
