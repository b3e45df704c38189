/- Deleting out of a row of the call's own: append(s[:i], s[j:]...), clear(s[n:m]). No program in sight. -/
import Derived.Test.YtlomhelcphhinaaZs
namespace Go.Rw
open Go Go.RowKit Go.Bs Go.Cl
variable {P : Program} {ops : Array Oper} {rest : List Oper} {o : Oper} {a : Act} {Q : Exit → Act → World → Prop} {w : World} {n : Nat} {xs : List Value}
/-- append(s[:i], s[j:]...) in the row itself -/
theorem wpList_append_self {t e k bytes : Nat} {z : Value} (E : Elem P t e k bytes z) {base g cap i m : Nat} {news : List Value}
    (hown : w.ownsRow base e k (.slice (some ⟨g, 0, none⟩) n cap) n xs) (s x : Operand) (hgd : o.guard = none) (ho : o.op = .call { callee := .builtin .append, args := #[s, x], argTypes := #[t, t] })
    {ad : Addr} {c : Nat} (hs : a.eval s = .slice (some ⟨g, 0, none⟩) i cap) (hxv : a.eval x = .slice (some ad) m c) (hl : news.length = m * k) (hnews : ∀ j u, news[j]? = some u → w.cell? (ad.add j) = some u) (h1 : ∀ u ∈ news, u.oneCell' = true) (him : i + m ≤ n)
    (h : ∀ w', w'.ownsRow base e k (.slice (some ⟨g, 0, none⟩) (i + m) cap) (i + m) (xs.take (i * k) ++ news) → w.grownBy w' (some g) → w'.heap.size = w.heap.size → wpList P ops Q rest (a.put o.dst (.slice (some ⟨g, 0, none⟩) (i + m) cap)) w') : wpList P ops Q (o :: rest) a w := by
  obtain ⟨i0, hi0, hz0, hz1, hz2⟩ := info_parts E.hi
  obtain ⟨hx1, hx2⟩ := hown
  rcases hx2 with ⟨hx2, _⟩ | ⟨g', cap', cur, hv, hb, hg, hn, hcm, hcs, ht⟩
  · cases hx2
  cases hv
  have hik : i * k + m * k ≤ n * k := by rw [← Nat.add_mul]; exact Nat.mul_le_mul_right _ him
  have hnk : n * k ≤ cap * k := Nat.mul_le_mul_right _ hn
  have hcl : cur.toList.length = cap * k := by simpa using hcs
  refine wpList_plain hgd fun K hK => ?_
  have hr := run_append_room (P := P) w t o.type e i0 E.ht hi0 g i cap cur hg ad m c news (by rw [hl, hz1]) hnews h1 (by omega) (by rw [hl, hz1]; omega)
  rw [hz1] at hr
  unfold Oper.wp execOp
  simp only [ho, resolve, invoke, builtin, Sem.run_bind, Sem.run_pure, Result.andThen_ok, List.map_toArray, List.map_cons, List.map_nil, hs, hxv, hr]
  refine hK _ _ (h _ ⟨?_, .inr ⟨g, cap, _, rfl, hb, setRow_heap w g cur _ e _ hg, by omega, hcm, ?_, ?_⟩⟩ ⟨rfl, rfl, rfl, by simp, fun q hq hne => setRow_other w g q _ (by simpa using hne)⟩ (by simp))
  · rw [List.length_append, List.length_take, hl, hx1, Nat.min_eq_left (by omega), ← Nat.add_mul]
  · rw [List.size_toArray, List.length_append, List.length_append, List.length_take, List.length_drop, hl, hcl]; omega
  · have e1 : xs.take (i * k) = cur.toList.take (i * k) := by rw [← ht, List.take_take, Nat.min_eq_left (by omega)]
    rw [List.toList_toArray, List.take_left' (by rw [List.length_append, List.length_take, hl, hcl, Nat.add_mul]; omega), e1]
theorem run_clear_own {t e k bytes : Nat} {z : Value} (E : Elem P t e k bytes z) (hzo : ∀ u ∈ z.cells.toList, u.oneCell' = true) (hk : 0 < k) {base g cap off m c ty : Nat}
    (hown : w.ownsRow base e k (.slice (some ⟨g, 0, none⟩) n cap) n xs) (hoff : n * k ≤ off) (hm : off + m * k ≤ cap * k) :
    ∃ w', (Builtin.clear_ #[t] ty #[.slice (some ⟨g, off, none⟩) m c]).run P w = .ok (.tuple #[]) w' ∧ w'.ownsRow base e k (.slice (some ⟨g, 0, none⟩) n cap) n xs ∧ w.grownBy w' (some g) ∧ w'.heap.size = w.heap.size := by
  obtain ⟨i0, hi0, hz0, hz1, hz2⟩ := info_parts E.hi
  obtain ⟨hx1, hx2⟩ := hown
  rcases hx2 with ⟨hx2, _⟩ | ⟨g', cap', cur, hv, hb, hg, hn, hcm, hcs, ht⟩
  · cases hx2
  cases hv
  have hcl : cur.toList.length = cap * k := by simpa using hcs
  by_cases h0 : m = 0
  · subst h0
    refine ⟨w, by simp [Builtin.clear_, run_underlying E.ht], ⟨hx1, .inr ⟨g, cap, cur, rfl, hb, hg, hn, hcm, hcs, ht⟩⟩, ⟨rfl, rfl, rfl, Nat.le_refl _, fun _ _ _ => rfl⟩, rfl⟩
  · obtain ⟨m', rfl⟩ : ∃ m', m = m' + 1 := ⟨m - 1, by omega⟩
    have hzl : (Builtin.zeroCells z.cells (m' + 1)).toList.length = (m' + 1) * k := by simp [size_zeroCells, E.hz]
    have hst := run_storeCells_at P g off e (Builtin.zeroCells z.cells (m' + 1)).toList 0 cur w hg (by rw [hzl]; simpa [hcs] using hm) (fun u hu => by
      obtain ⟨j, hj, rfl⟩ := List.mem_iff_getElem.1 hu
      simp only [Builtin.zeroCells, Array.toList_ofFn, List.getElem_ofFn]
      have hlt : j % z.cells.size < z.cells.size := Nat.mod_lt _ (by rw [E.hz]; exact hk)
      exact hzo _ (by simp [Array.getD, hlt]))
    rw [hzl, Nat.add_zero] at hst
    have hv : (zeroValue e).run P w = .ok z w := by simp [zeroValue, typeInfo, hi0, hz0]
    have hr : (Builtin.clear_ #[t] ty #[.slice (some ⟨g, off, none⟩) (m' + 1) c]).run P w = .ok (.tuple #[]) (w.setRow g (cur.toList.take off ++ (Builtin.zeroCells z.cells (m' + 1)).toList ++ cur.toList.drop (off + (m' + 1) * k)).toArray) := by
      simp [Builtin.clear_, run_underlying E.ht, hv, hst]
    refine ⟨_, hr, ⟨hx1, .inr ⟨g, cap, _, rfl, hb, setRow_heap w g cur _ e _ hg, hn, hcm, ?_, ?_⟩⟩, ⟨rfl, rfl, rfl, by simp, fun q hq hne => setRow_other w g q _ (by simpa using hne)⟩, by simp⟩
    · rw [List.size_toArray, List.length_append, List.length_append, List.length_take, List.length_drop, hzl, hcl]; omega
    · rw [List.toList_toArray, List.append_assoc, List.take_append_of_le_length (by simp [hcs]; omega), List.take_take, Nat.min_eq_left hoff]; exact ht
/-- clear(s[n:m]) behind a row's elements -/
theorem wpList_clear_own {t e k bytes : Nat} {z : Value} (E : Elem P t e k bytes z) (hzo : ∀ u ∈ z.cells.toList, u.oneCell' = true) (hk : 0 < k) {base g cap off m c : Nat}
    (hown : w.ownsRow base e k (.slice (some ⟨g, 0, none⟩) n cap) n xs) (hgd : o.guard = none) (x : Operand) (ho : o.op = .call { callee := .builtin .clear, args := #[x], argTypes := #[t] })
    (hxv : a.eval x = .slice (some ⟨g, off, none⟩) m c) (hoff : n * k ≤ off) (hm : off + m * k ≤ cap * k)
    (h : ∀ w', w'.ownsRow base e k (.slice (some ⟨g, 0, none⟩) n cap) n xs → w.grownBy w' (some g) → w'.heap.size = w.heap.size → wpList P ops Q rest (a.put o.dst (.tuple #[])) w') : wpList P ops Q (o :: rest) a w := by
  obtain ⟨w', hr, h1, h2, h3⟩ := run_clear_own (P := P) (c := c) (ty := o.type) E hzo hk hown hoff hm
  refine wpList_plain hgd fun K hK => ?_
  unfold Oper.wp execOp
  simp only [ho, resolve, invoke, builtin, Sem.run_bind, Sem.run_pure, Result.andThen_ok, List.map_toArray, List.map_cons, List.map_nil, hxv, hr]
  exact hK _ _ (h w' h1 h2 h3)
end Go.Rw
