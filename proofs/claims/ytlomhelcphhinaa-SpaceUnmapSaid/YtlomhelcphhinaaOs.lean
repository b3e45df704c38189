/- Sorted, compacted and shortened rows of a call's own (one cell an element): what the library's contracts leave, as rows. No program in sight. -/
import Derived.Test.YtlomhelcphhinaaRw
import Derived.Sort.Grow
import Derived.Lib.SlicesCompact
namespace Go.So
open Go Go.RowKit Go.Bs Go.Cl Go.Rw Go.Sort
variable {α : Type} [Inhabited α]
theorem heap_put (enc : α → Value) {w : World} {g e : Nat} {cur : Array Value} {fr : Nat × Nat} (h : w.heap[g]? = some (.cells cur e fr)) (q : Nat) (os : Array Obj) (d : Array α) :
    (grow (putRow enc (Sort.ahead w q) g 0 d) os).heap[g]? = some (.cells (putCells enc 0 d cur) e fr) := by
  have hlt := (Array.getElem?_eq_some_iff.1 h).1
  simp only [grow, putRow, mapBlock, Sort.ahead]
  rw [Array.getElem?_append_left (by simpa using hlt), Array.getElem?_modify, if_pos rfl, h]
  rfl
theorem keep_put (enc : α → Value) (w : World) (g q : Nat) (os : Array Obj) (d : Array α) : Keep [g] w (grow (putRow enc (Sort.ahead w q) g 0 d) os) where
  os := rfl
  tape := rfl
  output := rfl
  size := by simp [grow, putRow, mapBlock, Sort.ahead]
  block := fun k hk hn => by
    simp only [grow, putRow, mapBlock, Sort.ahead]
    rw [Array.getElem?_append_left (by simpa using hk), Array.getElem?_modify, if_neg (fun e => hn (by simp [e]))]
theorem putCells_size (enc : α → Value) (d : Array α) (c : Array Value) : (putCells enc 0 d c).size = c.size := by simp [putCells]
theorem putCells_take (enc : α → Value) (l : List α) (c : Array Value) (h : l.length ≤ c.size) : (putCells enc 0 l.toArray c).toList.take l.length = l.map enc := by
  apply List.ext_getElem?
  intro i
  rw [List.getElem?_take]
  by_cases hi : i < l.length
  · rw [if_pos hi, Array.getElem?_toList, putCells, Array.getElem?_mapIdx, Array.getElem?_eq_getElem (by omega), Option.map_some, if_pos ⟨by omega, by simpa using hi⟩, List.getElem?_map, List.getElem?_eq_getElem hi]
    simp [hi]
  · rw [if_neg hi]
    simp [List.getElem?_eq_none (show l.length ≤ i by omega)]
/-- a row of one's own, its cells written over -/
theorem own_put (enc : α → Value) {w : World} {base e g cap n : Nat} {xs : List Value} (h : w.ownsRow base e 1 (.slice (some ⟨g, 0, none⟩) n cap) n xs) (l : List α) (hl : l.length = n) (q : Nat) (os : Array Obj) :
    (grow (putRow enc (Sort.ahead w q) g 0 l.toArray) os).ownsRow base e 1 (.slice (some ⟨g, 0, none⟩) n cap) n (l.map enc) := by
  obtain ⟨h1, h2⟩ := h
  refine ⟨by simp [hl], ?_⟩
  rcases h2 with ⟨h2, _⟩ | ⟨g', cap', cur, hv, hb, hg, hn, hcm, hcs, ht⟩
  · cases h2
  · cases hv
    refine .inr ⟨g, cap, _, rfl, hb, heap_put enc hg q os _, hn, hcm, by rw [putCells_size]; exact hcs, ?_⟩
    have := putCells_take enc l cur (by omega)
    rw [← this, hl, Nat.mul_one]
/-- .. cut to m elements -/
theorem own_cut {w : World} {base e g cap n : Nat} {xs : List Value} (h : w.ownsRow base e 1 (.slice (some ⟨g, 0, none⟩) n cap) n xs) {m : Nat} (hm : m ≤ n) : w.ownsRow base e 1 (.slice (some ⟨g, 0, none⟩) m cap) m (xs.take m) := by
  obtain ⟨h1, h2⟩ := h
  refine ⟨by rw [List.length_take, h1]; omega, ?_⟩
  rcases h2 with ⟨h2, _⟩ | ⟨g', cap', cur, hv, hb, hg, hn, hcm, hcs, ht⟩
  · cases h2
  · cases hv
    refine .inr ⟨g, cap, cur, rfl, hb, hg, by omega, hcm, hcs, ?_⟩
    rw [← ht, List.take_take]
    congr 1; omega
theorem holds_own (enc : α → Value) {w : World} {base e g cap n : Nat} {l : List α} (h : w.ownsRow base e 1 (.slice (some ⟨g, 0, none⟩) n cap) n (l.map enc)) : Holds enc w g 0 l.toArray := by
  intro j hj
  have hj' : j < l.length := by simpa using hj
  refine ⟨?_, by rw [Nat.zero_add]; exact own_frozen h j⟩
  rw [Nat.zero_add, own_cell h rfl (u := enc l[j]) (by simp [hj'])]
  simp [hj']
/-- what slices.Compact leaves -/
theorem own_compact (enc : α → Value) [DecidableEq α] {w : World} {base e g cap n : Nat} {xs : List Value} (h : w.ownsRow base e 1 (.slice (some ⟨g, 0, none⟩) n cap) n xs) (l : List α) (k : Nat) (z : α) (hl : l.length + k = n) (q : Nat) (os : Array Obj) :
    (grow (putRow enc (Sort.ahead w q) g 0 (l ++ List.replicate k z).toArray) os).ownsRow base e 1 (.slice (some ⟨g, 0, none⟩) l.length cap) l.length (l.map enc) := by
  have := own_cut (own_put enc h (l ++ List.replicate k z) (by simp [hl]) q os) (m := l.length) (by omega)
  rwa [List.map_append, List.take_append_of_le_length (by simp), List.take_of_length_le (by simp)] at this
end Go.So
