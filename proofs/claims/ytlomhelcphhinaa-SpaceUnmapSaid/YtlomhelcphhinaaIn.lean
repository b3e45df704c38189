/- Laws on copy into a row that is known whole, on append of a made slice, and on the lists behind an insertion, for elements of any size. No program in sight. -/
import Derived.Test.YtlomhelcphhinaaCl
import Derived.Laws.CopyOwn
import Derived.Laws.Externs
import Derived.Lib.AppendZerosOnto
import Derived.Lib.Overlaps
namespace Go.In
open Go Go.RowKit Go.Bs
variable {P : Program} {w : World}

theorem grown_setRow (w : World) (g : Nat) (cs : Array Value) : w.grownBy (w.setRow g cs) (some g) :=
  ⟨rfl, rfl, rfl, by simp [World.setRow], fun k _ hk => setRow_other w g k cs (fun e => hk (by rw [e]))⟩

/-- copy into the row g, which is known whole -/
theorem run_copyk (w : World) (dT sT ty : TypeId) (e : TypeId) (size : Nat) (hu : P.underlying dT = some (.slice e)) (hz : (P.info? e).map (·.size) = some size)
    (g off dLen dCap : Nat) (ad : Addr) (sLen sCap : Nat) (cur : Array Value) (t : TypeId) (hg : w.heap[g]? = some (.cells cur t (0, 0))) (cs : List Value) (m : Nat) (hm : Nat.min sLen dLen = m) (hl : cs.length = m * size)
    (hsrc : ∀ j v, cs[j]? = some v → w.cell? (ad.add j) = some v) (hfit : off + cs.length ≤ cur.size) (h1 : ∀ v ∈ cs, v.oneCell' = true) :
    (Builtin.copy_ #[dT, sT] ty #[.slice (some ⟨g, off, none⟩) dLen dCap, .slice (some ad) sLen sCap]).run P w = .ok (goInt m) (w.setRow g (splice cur.toList off cs).toArray) := by
  have hf := run_firstCells_some (P := P) w size m ad sLen sCap cs hl hsrc
  have hst := run_storeCells_at P g off t cs 0 cur w hg (by simpa using hfit) h1
  simp only [Nat.add_zero] at hst
  obtain ⟨i0, hi0, hs0⟩ : ∃ i, P.info? e = some i ∧ i.size = size := by
    cases h : P.info? e with
    | none => rw [h] at hz; cases hz
    | some i => rw [h] at hz; exact ⟨i, rfl, by simpa using hz⟩
  subst hs0
  simp [Builtin.copy_, run_underlying hu, sizeOf, typeInfo, hi0, Builtin.lenOf, hm, hf, hst, splice]

theorem wpList_copyk {ops : Array Oper} {rest : List Oper} {o : Oper} {a : Act} {Q : Exit → Act → World → Prop} (hgd : o.guard = none) (d s : Operand) (dT sT : TypeId)
    (ho : o.op = .call { callee := .builtin .copy, args := #[d, s], argTypes := #[dT, sT] }) (e : TypeId) (size : Nat) (hu : P.underlying dT = some (.slice e)) (hz : (P.info? e).map (·.size) = some size)
    (g off dLen dCap : Nat) (ad : Addr) (sLen sCap : Nat) (hd : a.eval d = .slice (some ⟨g, off, none⟩) dLen dCap) (hs : a.eval s = .slice (some ad) sLen sCap)
    (cur : List Value) (t : TypeId) (hg : w.heap[g]? = some (.cells cur.toArray t (0, 0))) (cs : List Value) (m : Nat) (hm : Nat.min sLen dLen = m) (hl : cs.length = m * size)
    (hsrc : ∀ j v, cs[j]? = some v → w.cell? (ad.add j) = some v) (hfit : off + cs.length ≤ cur.length) (h1 : ∀ v ∈ cs, v.oneCell' = true)
    (h : ∀ w', w'.heap[g]? = some (.cells (splice cur off cs).toArray t (0, 0)) → w.grownBy w' (some g) → w'.heap.size = w.heap.size → wpList P ops Q rest (a.put o.dst (goInt m)) w') : wpList P ops Q (o :: rest) a w :=
  wpList_plain hgd fun K hK => by
    have hr := run_copyk (P := P) w dT sT o.type e size hu hz g off dLen dCap ad sLen sCap cur.toArray t hg cs m hm hl hsrc (by simpa using hfit) h1
    unfold Oper.wp execOp
    simp only [ho, resolve, invoke, builtin, Sem.run_bind, Sem.run_pure, Result.andThen_ok, List.map_toArray, List.map_cons, List.map_nil, hd, hs, hr]
    exact hK _ _ (h _ (setRow_heap w g _ _ t _ hg) (grown_setRow w g _) (by simp [World.setRow]))

/-- append(s, make([]T, k)...) where there is no room: a new row -/
theorem wpList_append_make {ops : Array Oper} {rest : List Oper} {o : Oper} {a : Act} {Q : Exit → Act → World → Prop} (hgd : o.guard = none) (s x : Operand) (t tn : TypeId)
    (ho : o.op = .call { callee := .builtin .append, args := #[s, x], argTypes := #[t, tn] })
    (e : TypeId) (i : TypeInfo) (z : Value) (size bytes : Nat) (kq kn : IntKind) (ht : P.underlying t = some (.slice e)) (htn : P.underlying tn = some (.int kn)) (hi : P.info? e = some i) (hz : i.zero = some z)
    (hsize : i.size = size) (hby : i.bytes = bytes) (hzs : z.cells.size = size) (hs0 : 0 < size)
    (b off n c : Nat) (olds : List Value) (hs : a.eval s = .slice (some ⟨b, off, none⟩) n c) (hol : olds.length = n * size) (hold : ∀ j u, olds[j]? = some u → w.cell? ⟨b, off + j, none⟩ = some u)
    (k : Nat) (kk : Int) (hx : a.eval x = .int kq kk) (hkk : kk = k) (h0 : 0 < k) (hg : c < n + k) (hb : (n + k) * bytes ≤ 140737488355328) (hn63 : n + k ≤ maxLen)
    (h : ∀ w' cap cur, w'.heap[w.heap.size]? = some (.cells (olds ++ cur).toArray e (0, 0)) → n + k ≤ cap → cap ≤ maxLen → (olds ++ cur).length = cap * size → w.grownBy w' none → w.heap.size < w'.heap.size →
      wpList P ops Q rest (a.put o.dst (.slice (some ⟨w.heap.size, 0, none⟩) (n + k) cap)) w') : wpList P ops Q (o :: rest) a w :=
  wpList_plain hgd fun K hK => by
    subst hsize
    subst hby
    subst hkk
    have hf := run_firstCells_some (P := P) w.drew i.size n ⟨b, off, none⟩ n c olds hol (fun j u hj => by rw [Addr.add_lit]; exact hold j u hj)
    have h64 : n + k ≤ 9223372036854775807 := by simp only [maxLen] at hn63; omega
    have hr := Lib.run_append_grow_zeros w t tn o.type e i z kq kn ht htn hi hz (some ⟨b, off, none⟩) n c olds hf k h0 hs0 hg (by omega)
      (by have := Nat.mul_le_mul_right i.bytes (show k ≤ n + k by omega); omega) (growslice_fits hg hb)
    unfold Oper.wp execOp
    simp only [ho, resolve, invoke, builtin, Sem.run_bind, Sem.run_pure, Result.andThen_ok, List.map_toArray, List.map_cons, List.map_nil, hs, hx, hr]
    have hge := grownCap_ge w (n + k) c e
    refine hK _ _ (h _ _ ((Builtin.zeroCells z.cells k).toList ++ (Builtin.zeroCells z.cells (grownCap w (n + k) c e - (n + k))).toList) ?_ hge (grownCap_le_maxLen w (n + k) c e hn63) ?_ ⟨rfl, rfl, rfl, by simp, fun q hq _ => Below.heap_alloc w.drew _ q hq⟩ (by simp))
    · refine (heap_alloc_new w.drew _).trans ?_
      congr 2
      apply Array.ext'
      simp
    · simp only [List.length_append, Array.length_toList, size_zeroCells, hzs, hol]
      rw [← Nat.add_mul, ← Nat.add_mul]
      congr 1
      omega

/-- the row behind the two copies of an insertion in place -/
theorem insert_in_place {cur xs ys : List Value} {iK n K : Nat} (ht : cur.take n = xs) (hx : xs.length = n) (hi : iK ≤ n) (hy : ys.length = K) (hc : n + K ≤ cur.length) :
    (splice (splice cur (iK + K) (xs.drop iK)) iK ys).take (n + K) = xs.take iK ++ ys ++ xs.drop iK ∧ (splice (splice cur (iK + K) (xs.drop iK)) iK ys).length = cur.length := by
  have hl1 : (splice cur (iK + K) (xs.drop iK)).length = cur.length := length_splice _ _ _ (by rw [List.length_drop]; omega)
  refine ⟨?_, by rw [length_splice _ _ _ (by rw [hl1]; omega), hl1]⟩
  have htk : cur.take iK = xs.take iK := by rw [← ht, List.take_take, Nat.min_eq_left hi]
  have h1 : (splice cur (iK + K) (xs.drop iK)).take iK = xs.take iK := by
    unfold splice
    rw [List.take_append_of_le_length (by rw [List.length_take]; omega), List.take_take, Nat.min_eq_left (by omega), htk]
  have h2 : (splice cur (iK + K) (xs.drop iK)).drop (iK + K) = xs.drop iK ++ cur.drop (n + K) := by
    unfold splice
    rw [List.drop_append, List.drop_eq_nil_of_le (by rw [List.length_take]; omega), List.length_take, List.nil_append, Nat.min_eq_left (by omega), Nat.sub_self, List.drop_zero]
    congr 2
    rw [List.length_drop]; omega
  unfold splice at h1 h2 ⊢
  rw [hy, h1, h2, ← List.append_assoc, ← List.append_assoc, List.append_assoc (xs.take iK ++ ys), ← List.append_assoc, List.take_append_of_le_length, List.take_of_length_le]
  · simp; omega
  · simp; omega

/-- the row behind the two copies of an insertion into a new row -/
theorem insert_anew {cur xs ys : List Value} {iK n K : Nat} (hx : xs.length = n) (hi : iK ≤ n) (hy : ys.length = K) (hc : n + K ≤ (xs.take iK ++ cur).length) :
    (splice (splice (xs.take iK ++ cur) iK ys) (iK + K) (xs.drop iK)).take (n + K) = xs.take iK ++ ys ++ xs.drop iK ∧ (splice (splice (xs.take iK ++ cur) iK ys) (iK + K) (xs.drop iK)).length = (xs.take iK ++ cur).length := by
  have htl : (xs.take iK).length = iK := by rw [List.length_take]; omega
  have hl1 : (splice (xs.take iK ++ cur) iK ys).length = (xs.take iK ++ cur).length := length_splice _ _ _ (by omega)
  refine ⟨?_, by rw [length_splice _ _ _ (by rw [hl1, List.length_drop]; omega), hl1]⟩
  have h1 : (splice (xs.take iK ++ cur) iK ys).take (iK + K) = xs.take iK ++ ys := by
    unfold splice
    have h0 : (xs.take iK ++ cur).take iK = xs.take iK := List.take_left' htl
    rw [h0, ← List.append_assoc, List.take_append_of_le_length (by rw [List.length_append]; omega), List.take_of_length_le (by rw [List.length_append]; omega)]
  generalize splice (xs.take iK ++ cur) iK ys = B at h1 hl1 ⊢
  unfold splice
  rw [h1, ← List.append_assoc, List.take_append_of_le_length (by simp only [List.length_append, List.length_drop]; omega), List.take_of_length_le (by simp only [List.length_append, List.length_drop]; omega)]
end Go.In
