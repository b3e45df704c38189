/- Reading slices of elements that may hold slices themselves, as rows of cells. No program in sight. -/
import Derived.Test.YtbpifaamlcjocaaRw
import Derived.Test.YtbpifaamlcjocaaRd
namespace Go.Rd
open Go Go.ChangeShapes Go.WideShapes Go.ChangeAt Go.RowKit Go.Bs Go.Deep Go.Joins Go.Rw Go.Cl
variable {H : Type} {enc : TypeId × Value → H} {P : Program} {W : World}

/-- a slice, of elements each read by rd, with what Rl says -/
theorem read_cs {α : Type} {t e k : Nat} {rd : α → List Value} {Rl : α → Prop} (hk : P.cellsOf e = k) (hk0 : 0 < k) (hrk : ∀ x, (rd x).length = k) (ht : P.underlying t = some (.slice e)) (hone : ∀ y, Rl y → ∀ u ∈ rd y, u.oneCell' = true)
    (helem : ∀ (fuel : Nat) (cs : List Value) (x : DataW H × List MemPlace), DataW.trod enc P W 0 (fun _ => true) true fuel e cs = some x → ∃ y : α, cs = rd y ∧ Rl y)
    {fuel : Nat} {cs : List Value} {x : DataW H × List MemPlace} (h : DataW.trod enc P W 0 (fun _ => true) true fuel t cs = some x) :
    ∃ (v : Value) (l : List α), cs = [v] ∧ Raw [] k W v l.length (l.flatMap rd) ∧ ∀ y ∈ l, Rl y := by
  have hcs : ∃ a len cap, cs = [.slice a len cap] := by
    rcases open_slice ht h with ⟨hcs, _⟩ | ⟨a, len', cap', m, n, D, Pl, hcs, _⟩
    · exact ⟨_, _, _, hcs⟩
    · exact ⟨_, _, _, hcs⟩
  obtain ⟨a0, len, cap, rfl⟩ := hcs
  have hT : DataW.Trod enc P W 0 (fun _ => true) true t (.slice a0 len cap) x.1 x.2 := ⟨fuel, by simpa [Value.cells] using h⟩
  obtain ⟨h1, h2, l, hl, hh⟩ := read_slice3 (α := {y : α // Rl y}) (rd := fun y => rd y.1) hk hk0 ht (fun fuel cs x hx => by
    obtain ⟨y, hy, hr⟩ := helem fuel cs x hx
    exact ⟨⟨y, hr⟩, hy⟩) hT
  refine ⟨_, l.map (·.1), rfl, ?_, fun y hy => ?_⟩
  · refine ⟨by rw [flat_length rd hrk], fun u hu => ?_, a0, cap, by rw [List.length_map, hl], by rw [List.length_map, hl]; exact h1, h2, fun h0 => ?_⟩
    · obtain ⟨y, hy, hu⟩ := List.mem_flatMap.1 hu
      obtain ⟨z, _, rfl⟩ := List.mem_map.1 hy
      exact hone _ z.2 u hu
    · obtain ⟨b, off, rfl, hb, hc⟩ := hh (by rw [List.length_map, hl] at h0; exact h0)
      refine ⟨b, off, rfl, hb, fun hm => (by cases hm), fun j u hj => ?_⟩
      obtain ⟨y, hy, hu, hd, hm, he⟩ := flat_cell rd hrk hk0 hj
      rw [List.getElem?_map] at hy
      cases hz : l[j / k]? with
      | none => rw [hz] at hy; cases hy
      | some z =>
        rw [hz] at hy
        simp only [Option.map_some, Option.some.injEq] at hy
        have := hc (j / k) z hz (j % k) hm
        rw [hy, hu] at this
        rw [show off + j = off + j / k * k + j % k by omega]
        exact this
  · obtain ⟨z, _, rfl⟩ := List.mem_map.1 hy
    exact z.2
/-- .. an argument -/
theorem read_val {α : Type} {t e k : Nat} {rd : α → List Value} {Rl : α → Prop} (hk : P.cellsOf e = k) (hk0 : 0 < k) (hrk : ∀ x, (rd x).length = k) (ht : P.underlying t = some (.slice e)) (hone : ∀ y, Rl y → ∀ u ∈ rd y, u.oneCell' = true)
    (helem : ∀ (fuel : Nat) (cs : List Value) (x : DataW H × List MemPlace), DataW.trod enc P W 0 (fun _ => true) true fuel e cs = some x → ∃ y : α, cs = rd y ∧ Rl y)
    {base : Nat} {v : Value} {d : DataW H} {p : List MemPlace} (hv : Value.okWide P W .any base t v) (h : DataW.Trod enc P W 0 (fun _ => true) true t v d p) :
    ∃ l : List α, Raw [] k W v l.length (l.flatMap rd) ∧ ∀ y ∈ l, Rl y := by
  obtain ⟨a, len, cap, rfl⟩ := okWide_slice ht hv
  obtain ⟨fuel, hf⟩ := h
  obtain ⟨v, l, hcs, h1, h2⟩ := read_cs hk hk0 hrk ht hone helem hf
  simp [Value.cells] at hcs
  subst hcs
  exact ⟨l, h1, h2⟩
theorem byte_wf {n : Int} (h : (Lit.int .u8 n).wf = true) : ∃ b : UInt8, n = b.toNat := by
  have : 0 ≤ n ∧ n ≤ 255 := by simpa [Lit.wf, IntKind.min, IntKind.max, IntKind.signed, IntKind.bits] using h
  exact ⟨UInt8.ofNat n.toNat, by simp; omega⟩
theorem flat_bytes (l : List UInt8) : (l.flatMap fun b => [byteV b]) = bytesV l := by induction l with | nil => rfl | cons b l ih => simp [bytesV] at ih ⊢; exact ih
theorem byte_elem {e : Nat} (he : P.underlying e = some (.int .u8)) (fuel : Nat) (cs : List Value) (x : DataW H × List MemPlace) (h : DataW.trod enc P W 0 (fun _ => true) true fuel e cs = some x) : ∃ y : UInt8, cs = [byteV y] ∧ True := by
  obtain ⟨n, rfl, _, hw⟩ := DataW.trod_int he h
  obtain ⟨b, rfl⟩ := byte_wf hw
  exact ⟨b, rfl, trivial⟩
/-- a []byte among the cells of something -/
theorem read_bytes_cs {t e : Nat} (hk : P.cellsOf e = 1) (ht : P.underlying t = some (.slice e)) (he : P.underlying e = some (.int .u8)) {fuel : Nat} {cs : List Value} {x : DataW H × List MemPlace} (h : DataW.trod enc P W 0 (fun _ => true) true fuel t cs = some x) :
    ∃ (v : Value) (l : List UInt8), cs = [v] ∧ Bytes [] W v l := by
  obtain ⟨v, l, h1, h2, _⟩ := read_cs (rd := fun b => [byteV b]) (Rl := fun _ => True) hk (by omega) (fun _ => rfl) ht (fun y _ u hu => by rw [List.mem_singleton.1 hu]; rfl) (byte_elem he) h
  rw [flat_bytes] at h2
  exact ⟨v, l, h1, h2⟩
theorem read_bytes {t e : Nat} (hk : P.cellsOf e = 1) (ht : P.underlying t = some (.slice e)) (he : P.underlying e = some (.int .u8)) {base : Nat} {v : Value} {d : DataW H} {p : List MemPlace} (hv : Value.okWide P W .any base t v) (h : DataW.Trod enc P W 0 (fun _ => true) true t v d p) :
    ∃ l : List UInt8, Bytes [] W v l := by
  obtain ⟨l, h2, _⟩ := read_val (rd := fun b => [byteV b]) (Rl := fun _ => True) hk (by omega) (fun _ => rfl) ht (fun y _ u hu => by rw [List.mem_singleton.1 hu]; rfl) (byte_elem he) hv h
  rw [flat_bytes] at h2
  exact ⟨l, h2⟩
end Go.Rd
