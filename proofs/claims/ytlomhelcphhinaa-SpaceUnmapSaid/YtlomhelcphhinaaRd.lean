/- Reading: what a slice of structs that came in is. No program in sight. -/
import Derived.Test.YtlomhelcphhinaaBs
import Derived.ProofKit
import Derived.OpenShut
import Derived.Deep.Slices
import Derived.Lib.SmallJoins
namespace Go.Rd
open Go Go.ChangeShapes Go.WideShapes Go.ChangeAt Go.RowKit Go.Bs Go.Deep Go.Joins
variable {H : Type} {enc : TypeId × Value → H} {P : Program} {W : World}

theorem cells_at {base : Nat} {a : Addr} {n : Nat} {cs : List Value} (h : W.cells? base a n = some cs) : cs.length = n ∧ ∀ j, j < n → W.cell? (a.add j) = cs[j]? := by
  obtain ⟨_, h2, h3⟩ := World.cells?_some h
  exact ⟨h2, h3⟩

/-- a slice of elements of three cells, each read by 'rd' -/
theorem read_slice3 {α : Type} {t e k : Nat} {rd : α → List Value} (hk : P.cellsOf e = k) (hk0 : 0 < k) (ht : P.underlying t = some (.slice e))
    (helem : ∀ (fuel : Nat) (cs : List Value) (x : DataW H × List MemPlace), DataW.trod enc P W 0 (fun _ => true) true fuel e cs = some x → ∃ y : α, cs = rd y)
    {a0 : Option Addr} {len cap : Nat} {d : DataW H} {p : List MemPlace} (h : DataW.Trod enc P W 0 (fun _ => true) true t (.slice a0 len cap) d p) :
    len ≤ cap ∧ cap ≤ maxLen ∧ ∃ l : List α, l.length = len ∧ (0 < len → ∃ b off, a0 = some ⟨b, off, none⟩ ∧ b < W.heap.size ∧ ∀ i (y : α), l[i]? = some y → ∀ j, j < k → W.cell? ⟨b, off + i * k + j, none⟩ = (rd y)[j]?) := by
  obtain ⟨fuel, hf⟩ := h
  rcases open_slice ht hf with ⟨hcs, _⟩ | ⟨a, len', cap', m, n, D, Pl, hcs, _, hl, hm, hmm, _, hel⟩
  · simp [Value.cells] at hcs
    obtain ⟨rfl, rfl, rfl⟩ := hcs
    exact ⟨Nat.le_refl _, Nat.zero_le _, [], rfl, fun h => by omega⟩
  · simp [Value.cells] at hcs
    obtain ⟨rfl, rfl, rfl⟩ := hcs
    simp only [if_true] at hmm
    subst hmm
    have hex : ∀ i, ∃ y : Option α, i < len → ∃ z, y = some z ∧ W.cells? 0 (a.add (i * k)) k = some (rd z) := by
      intro i
      by_cases hi : i < len
      · obtain ⟨cs', h1, h2⟩ := hel i (by omega)
        obtain ⟨y, rfl⟩ := helem _ _ _ h2
        rw [hk] at h1
        exact ⟨some y, fun _ => ⟨y, rfl, h1⟩⟩
      · exact ⟨none, fun h => absurd h hi⟩
    have hex2 : ∀ n, n ≤ len → ∃ l : List α, l.length = n ∧ ∀ i y, l[i]? = some y → W.cells? 0 (a.add (i * k)) k = some (rd y) := by
      intro n
      induction n with
      | zero => intro _; exact ⟨[], rfl, fun i y h => by simp at h⟩
      | succ n ih =>
        intro hn
        obtain ⟨l, hl1, hl2⟩ := ih (by omega)
        obtain ⟨y, hy⟩ := hex n
        obtain ⟨z, rfl, hz⟩ := hy (by omega)
        refine ⟨l ++ [z], by simp [hl1], fun i y h => ?_⟩
        by_cases hi : i < l.length
        · rw [List.getElem?_append_left hi] at h; exact hl2 i y h
        · rw [List.getElem?_append_right (by omega)] at h
          have : i = n := by
            rcases Nat.lt_or_ge (i - l.length) 1 with h' | h'
            · omega
            · simp [List.getElem?_eq_none (show [z].length ≤ i - l.length by simpa using h')] at h
          subst this
          simp [hl1] at h
          rw [← h]; exact hz
    obtain ⟨l, hl1, hl2⟩ := hex2 len (Nat.le_refl _)
    refine ⟨hl, hm, l, hl1, fun h0 => ?_⟩
    obtain ⟨y0, hy0⟩ : ∃ y, l[0]? = some y := ⟨l[0], by simp [hl1, h0]⟩
    have hc0 := (cells_at (hl2 0 y0 hy0)).2 0 hk0
    obtain ⟨b, off, spot⟩ := a
    have hr0 : ∃ v, (rd y0)[0]? = some v := by
      have := (cells_at (hl2 0 y0 hy0)).1
      exact ⟨(rd y0)[0]'(by omega), by simp⟩
    obtain ⟨v0, hv0⟩ := hr0
    rw [hv0] at hc0
    have hspot : spot = none := by simpa [Addr.add] using World.cell?_spot hc0
    subst hspot
    have hb : b < W.heap.size := by simpa [Addr.add] using World.block_lt_of_cell? W _ hc0
    refine ⟨b, off, rfl, hb, fun i y hi j hj => ?_⟩
    have := (cells_at (hl2 i y hi)).2 j hj
    have e : (({ block := b, off := off, spot := none } : Addr).add (i * k)).add j = ⟨b, off + i * k + j, none⟩ := by
      unfold Addr.add
      split <;> split <;> simp_all
    rw [e] at this
    exact this
end Go.Rd
