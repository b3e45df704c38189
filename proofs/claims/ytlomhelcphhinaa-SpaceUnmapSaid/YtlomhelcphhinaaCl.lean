/- Rows of a call's own: a cell written, an empty row built, elements read as cells. No program in sight. -/
import Derived.Test.YtlomhelcphhinaaMl
import Derived.Lib.SliceRun
namespace Go.Cl
open Go Go.RowKit Go.Bs

theorem flat_cell {α : Type} {k : Nat} (enc : α → List Value) (hk : ∀ x, (enc x).length = k) (h0 : 0 < k) {l : List α} {j : Nat} {u : Value} (h : (l.flatMap enc)[j]? = some u) :
    ∃ x, l[j / k]? = some x ∧ (enc x)[j % k]? = some u ∧ j / k < l.length ∧ j % k < k ∧ j = j / k * k + j % k := by
  have hlt : j < (l.flatMap enc).length := (List.getElem?_eq_some_iff.1 h).1
  rw [flat_length enc hk] at hlt
  have hd : j / k < l.length := (Nat.div_lt_iff_lt_mul h0).2 hlt
  have hm : j % k < k := Nat.mod_lt _ h0
  have he : j = j / k * k + j % k := by rw [Nat.mul_comm]; exact (Nat.div_add_mod j k).symm
  have hx := List.getElem?_eq_getElem hd
  refine ⟨l[j / k], hx, ?_, hd, hm, he⟩
  rw [← flat_get enc hk l (j / k) (j % k) _ hx hm, ← he]
  exact h
theorem flat_set {α : Type} {k : Nat} (enc : α → List Value) (hk : ∀ x, (enc x).length = k) (l : List α) (i j : Nat) (x y : α) (u : Value) (hi : l[i]? = some x) (hj : j < k) (hy : enc y = (enc x).set j u) :
    (l.flatMap enc).set (i * k + j) u = (l.set i y).flatMap enc := by
  induction l generalizing i with
  | nil => simp at hi
  | cons z l ih =>
    cases i with
    | zero =>
      simp at hi; subst hi
      simp only [List.flatMap_cons, List.set_cons_zero, Nat.zero_mul, Nat.zero_add, hy]
      rw [List.set_append_left _ _ (by rw [hk]; exact hj)]
    | succ i =>
      simp only [List.flatMap_cons, List.set_cons_succ]
      rw [List.set_append_right _ _ (by rw [hk, Nat.add_mul]; omega), hk]
      have : (i + 1) * k + j - k = i * k + j := by rw [Nat.add_mul]; omega
      rw [this, ih i (by simpa using hi)]
theorem flat_take {α : Type} {k : Nat} (enc : α → List Value) (hk : ∀ x, (enc x).length = k) : ∀ (l : List α) (i : Nat), (l.flatMap enc).take (i * k) = (l.take i).flatMap enc
  | [], _ => by simp
  | x :: l, 0 => by simp
  | x :: l, i + 1 => by
    simp only [List.flatMap_cons, List.take_succ_cons]
    rw [List.take_append, List.take_of_length_le (by rw [hk, Nat.add_mul]; omega), hk, show (i + 1) * k - k = i * k by rw [Nat.add_mul]; omega, flat_take enc hk l i]
theorem flat_drop {α : Type} {k : Nat} (enc : α → List Value) (hk : ∀ x, (enc x).length = k) : ∀ (l : List α) (i : Nat), (l.flatMap enc).drop (i * k) = (l.drop i).flatMap enc
  | [], _ => by simp
  | x :: l, 0 => by simp
  | x :: l, i + 1 => by
    simp only [List.flatMap_cons, List.drop_succ_cons]
    rw [List.drop_append, List.drop_eq_nil_of_le (by rw [hk, Nat.add_mul]; omega), hk, show (i + 1) * k - k = i * k by rw [Nat.add_mul]; omega, flat_drop enc hk l i, List.nil_append]
theorem drew_heap (w : World) : w.drew.heap = w.heap := rfl
theorem own_drew {w : World} {base e size : Nat} {v : Value} {n : Nat} {xs : List Value} (h : w.ownsRow base e size v n xs) : w.drew.ownsRow base e size v n xs := h
/-- a cell of an owned row written -/
theorem own_set {w : World} {base e size : Nat} {n : Nat} {xs : List Value} {g cap : Nat} (h : w.ownsRow base e size (.slice (some ⟨g, 0, none⟩) n cap) n xs) {j : Nat} {u : Value} (hj : j < xs.length) :
    (w.setCell ⟨g, j, none⟩ u).ownsRow base e size (.slice (some ⟨g, 0, none⟩) n cap) n (xs.set j u) := by
  obtain ⟨h1, h2⟩ := h
  refine ⟨by simpa using h1, ?_⟩
  rcases h2 with ⟨h2, _⟩ | ⟨g', cap', cur, hv, hb, hg, hn, hcm, hcs, ht⟩
  · cases h2
  · cases hv
    refine .inr ⟨g, cap, cur.setIfInBounds j u, rfl, hb, ?_, hn, hcm, by simpa using hcs, ?_⟩
    · simp only [World.setCell]
      rw [Array.getElem?_modify, if_pos rfl, hg]
      rfl
    · rw [Array.toList_setIfInBounds, List.take_set, ht]
theorem own_frozen {w : World} {base e size : Nat} {n : Nat} {xs : List Value} {g cap : Nat} (h : w.ownsRow base e size (.slice (some ⟨g, 0, none⟩) n cap) n xs) (j : Nat) : w.frozen? ⟨g, j, none⟩ = false := by
  obtain ⟨h1, h2⟩ := h
  rcases h2 with ⟨h2, _⟩ | ⟨g', cap', cur, hv, hb, hg, _⟩
  · cases h2
  · cases hv
    simp [World.frozen?, hg]
/-- a row that was built empty -/
theorem own_empty (w : World) (base e size : Nat) (hb : base ≤ w.heap.size) : (w.alloc (.cells #[] e)).ownsRow base e size (.slice (some ⟨w.heap.size, 0, none⟩) 0 0) 0 [] :=
  ⟨by simp, .inr ⟨w.heap.size, 0, #[], rfl, hb, heap_alloc_new w _, Nat.le_refl _, Nat.zero_le _, by simp, by simp⟩⟩
theorem below_set {N : Nat} {w w' : World} (h : Below N w w') {g j : Nat} (hg : N ≤ g) (u : Value) : Below N w (w'.setCell ⟨g, j, none⟩ u) :=
  h.setCell hg u
end Go.Cl
