/- Detect: the arguments of DetectBound, read -/
import Derived.Test.YtbpifaamlcjocaaFa
import Derived.Test.YtbpifaamlcjocaaDi
namespace Go.Proofs.Ytbpifaamlcjocaa
open Go.ChangeShapes Go.WideShapes Go.ChangeAt Go.RowKit Go.Bs Go.Cl Go.Rw Go.Rd Go.Deep Go.Joins Go.Fa
variable {H : Type} {enc : TypeId × Value → H} {W : World}
theorem Try.cells5 : Try.prog.cellsOf 5 = 1 := by kernel_rfl
theorem Try.cells41 : Try.prog.cellsOf 41 = 3 := by kernel_rfl
theorem Try.cells43 : Try.prog.cellsOf 43 = 7 := by kernel_rfl
theorem Try.cells44 : Try.prog.cellsOf 44 = 1 := by kernel_rfl
theorem Try.cells45 : Try.prog.cellsOf 45 = 3 := by kernel_rfl
theorem okWide_array {P : Program} {w : World} {r : Reach} {base : Nat} {t e : TypeId} {n : Nat} {v : Value} (ht : P.underlying t = some (.array n e)) (h : Value.okWide P w r base t v) : ∃ cs, v = .agg cs ∧ cs.size = P.cellsOf t := by
  simp only [Value.okWide, ht] at h
  obtain ⟨cs, h1, h2, _⟩ := h
  exact ⟨cs, h1, h2⟩
theorem agg_of3 {cs : Array Value} (h : cs.size = 3) : ∃ a b c, cs = #[a, b, c] := by
  obtain ⟨l⟩ := cs
  match l, h with
  | [a, b, c], _ => exact ⟨a, b, c, rfl⟩
theorem agg_of7 {cs : Array Value} (h : cs.size = 7) : ∃ a b c d e f g, cs = #[a, b, c, d, e, f, g] := by
  obtain ⟨l⟩ := cs
  match l, h with
  | [a, b, c, d, e, f, g], _ => exact ⟨a, b, c, d, e, f, g, rfl⟩
theorem wf_bounds {n : Int} (h : (Lit.int .i64 n).wf = true) : -9223372036854775808 ≤ n ∧ n ≤ 9223372036854775807 := by
  simpa [Lit.wf, IntKind.min, IntKind.max, IntKind.signed, IntKind.bits] using h
set_option maxRecDepth 100000 in
theorem read_int3 {base : Nat} {v : Value} {d : DataW H} {p : List MemPlace} (hv : Value.okWide Try.prog W .any base 41 v) (h : DataW.Trod enc Try.prog W 0 (fun _ => true) true 41 v d p) :
    ∃ n0 n1 n2 : Int, v = .agg #[.int .i64 n0, .int .i64 n1, .int .i64 n2] ∧ (-9223372036854775808 ≤ n0 ∧ n0 ≤ 9223372036854775807) ∧ (-9223372036854775808 ≤ n1 ∧ n1 ≤ 9223372036854775807) := by
  obtain ⟨cs, rfl, hs⟩ := okWide_array Try.underlying41 hv
  rw [Try.cells41] at hs
  obtain ⟨c0, c1, c2, rfl⟩ := agg_of3 hs
  obtain ⟨fuel, hf⟩ := h
  obtain ⟨y0, y1, y2, m, _, g0, g1, g2⟩ := trod_array3 Try.underlying41 Try.cells3 hf
  obtain ⟨k0, e0, _, w0⟩ := DataW.trod_int Try.underlying3 g0
  obtain ⟨k1, e1, _, w1⟩ := DataW.trod_int Try.underlying3 g1
  obtain ⟨k2, e2, _, _⟩ := DataW.trod_int Try.underlying3 g2
  cases e0; cases e1; cases e2
  exact ⟨k0, k1, k2, rfl, wf_bounds w0, wf_bounds w1⟩
set_option maxRecDepth 100000 in
theorem read_plan {base : Nat} {v : Value} {d : DataW H} {p : List MemPlace} (hv : Value.okWide Try.prog W .any base 43 v) (h : DataW.Trod enc Try.prog W 0 (fun _ => true) true 43 v d p) : ∃ p : FP, v = .agg p.cs := by
  obtain ⟨cs, rfl, hs⟩ := okWide_struct Try.underlying43 hv
  rw [Try.cells43] at hs
  obtain ⟨c0, c1, c2, c3, c4, c5, c6, rfl⟩ := agg_of7 hs
  obtain ⟨fuel, hf⟩ := h
  obtain ⟨xs, n, _, _, _, hlen, hf⟩ := DataW.trod_struct Try.underlying43 hf
  have hl7 : xs.length = 7 := hlen
  have h0 := hf 0 _ rfl
  rw [List.getElem?_eq_getElem (show 0 < xs.length by omega)] at h0
  obtain ⟨k0, e0, _⟩ := DataW.trod_int Try.underlying3 h0
  simp [Try.cells3, Value.cells] at e0
  subst e0
  have h1 := hf 1 _ rfl
  rw [List.getElem?_eq_getElem (show 1 < xs.length by omega)] at h1
  obtain ⟨k1, e1, _⟩ := DataW.trod_int Try.underlying3 h1
  simp [Try.cells3, Value.cells] at e1
  subst e1
  have h2 := hf 2 _ rfl
  rw [List.getElem?_eq_getElem (show 2 < xs.length by omega)] at h2
  obtain ⟨k2, e2, _⟩ := DataW.trod_int Try.underlying3 h2
  simp [Try.cells3, Value.cells] at e2
  subst e2
  have h3 := hf 3 _ rfl
  rw [List.getElem?_eq_getElem (show 3 < xs.length by omega)] at h3
  obtain ⟨k3, e3, _⟩ := DataW.trod_int Try.underlying3 h3
  simp [Try.cells3, Value.cells] at e3
  subst e3
  have h4 := hf 4 _ rfl
  rw [List.getElem?_eq_getElem (show 4 < xs.length by omega)] at h4
  obtain ⟨k4, e4, _⟩ := DataW.trod_int Try.underlying3 h4
  simp [Try.cells3, Value.cells] at e4
  subst e4
  have h5 := hf 5 _ rfl
  rw [List.getElem?_eq_getElem (show 5 < xs.length by omega)] at h5
  obtain ⟨k5, e5, _⟩ := DataW.trod_int Try.underlying3 h5
  simp [Try.cells3, Value.cells] at e5
  subst e5
  have h6 := hf 6 _ rfl
  rw [List.getElem?_eq_getElem (show 6 < xs.length by omega)] at h6
  obtain ⟨k6, e6, _⟩ := DataW.trod_int Try.underlying3 h6
  simp [Try.cells3, Value.cells] at e6
  subst e6
  exact ⟨⟨k0, k1, k2, k3, k4, k5, k6⟩, rfl⟩
theorem Try.bytes5 : Try.prog.bytesOf 5 = 1 := by kernel_rfl
theorem slice_reach {fuel : Nat} {a : Option Addr} {len cap : Nat} {y : DataW H × List MemPlace} (h : DataW.trod enc Try.prog W 0 (fun _ => true) true fuel 44 [.slice a len cap] = some y) (hw : ∀ n ∈ y.1.weights Try.prog 44, n ≤ reachBytes) : len ≤ reachBytes := by
  rcases open_slice Try.underlying44 h with ⟨hcs, _⟩ | ⟨a', len', cap', m, n, D, Pl, hcs, _, _, _, _, rfl, _⟩
  · simp at hcs
    rw [hcs.2.1]; exact Nat.zero_le _
  · simp at hcs
    obtain ⟨_, rfl, _⟩ := hcs
    have := hw _ (by simp only [DataW.weights, Try.underlying44]; exact .head _)
    rw [Try.bytes5] at this
    simp at this
    omega
set_option maxRecDepth 100000 in
theorem read_bytes3 {base : Nat} {v : Value} {d : DataW H} {p : List MemPlace} (hv : Value.okWide Try.prog W .any base 45 v) (h : DataW.Trod enc Try.prog W 0 (fun _ => true) true 45 v d p) (hw : ∀ n ∈ d.weights Try.prog 45, n ≤ reachBytes) :
    ∃ (s0 s1 s2 : Value) (x0 x1 x2 : List UInt8), v = .agg #[s0, s1, s2] ∧ Bytes [] W s0 x0 ∧ Bytes [] W s1 x1 ∧ Bytes [] W s2 x2 ∧ x0.length ≤ reachBytes ∧ x1.length ≤ reachBytes ∧ x2.length ≤ reachBytes := by
  obtain ⟨cs, rfl, hs⟩ := okWide_array Try.underlying45 hv
  rw [Try.cells45] at hs
  obtain ⟨c0, c1, c2, rfl⟩ := agg_of3 hs
  obtain ⟨fuel, hf⟩ := h
  obtain ⟨y0, y1, y2, m, hx, g0, g1, g2⟩ := trod_array3 Try.underlying45 Try.cells44 hf
  simp only [Prod.mk.injEq] at hx
  obtain ⟨rfl, _⟩ := hx
  simp only [DataW.weights, Try.underlying45, DataW.weightsAll, List.append_nil, List.mem_append] at hw
  obtain ⟨k0, l0, e0, b0⟩ := read_bytes_cs Try.cells5 Try.underlying44 Try.underlying5 g0
  obtain ⟨k1, l1, e1, b1⟩ := read_bytes_cs Try.cells5 Try.underlying44 Try.underlying5 g1
  obtain ⟨k2, l2, e2, b2⟩ := read_bytes_cs Try.cells5 Try.underlying44 Try.underlying5 g2
  cases e0; cases e1; cases e2
  obtain ⟨_, _, rfl⟩ := Raw.slice b0
  obtain ⟨_, _, rfl⟩ := Raw.slice b1
  obtain ⟨_, _, rfl⟩ := Raw.slice b2
  exact ⟨_, _, _, l0, l1, l2, rfl, b0, b1, b2, slice_reach g0 (fun n hn => hw n (.inl hn)), slice_reach g1 (fun n hn => hw n (.inr (.inl hn))), slice_reach g2 (fun n hn => hw n (.inr (.inr hn)))⟩
end Go.Proofs.Ytbpifaamlcjocaa
