/- append of a string's bytes to a row of bytes of the call's own. No program in sight. -/
import Derived.Test.YtfgbkfifiioeiaaM1
import Derived.Lib.AppendStr
namespace Go.Rw
open Go Go.RowKit Go.Bs Go.Cl Go.Lib
theorem strCells_of (l : List UInt8) : strCells (strOf l) = bytesV l := rfl
section
variable {P : Program}
theorem run_append_str (w : World) (base : Nat) (t u ty e : TypeId) (i : TypeInfo) (ht : P.underlying t = some (.slice e)) (hu : P.underlying u = some .string) (hi : P.info? e = some i) (hz : i.zero = some (.int .u8 0))
    (hsize : i.size = 1) (hby : i.bytes = 1)
    (v : Value) (n : Nat) (xs : List Value) (hown : w.ownsRow base e 1 v n xs) (s : ByteArray)
    (h63 : n + s.size ≤ maxLen) (hbytes : n + s.size ≤ 140737488355328) (hbase : base ≤ w.heap.size) :
    ∃ v' w', (Builtin.append_ #[t, u] ty #[v, .string s]).run P w = .ok v' w' ∧ w'.ownsRow base e 1 v' (n + s.size) (xs ++ strCells s) ∧ w.grownBy w' v.ownBlock ∧ (v'.ownBlock = v.ownBlock ∨ v'.ownBlock = some w.heap.size) := by
  obtain ⟨v', w', hr, h2, h3, h4⟩ := run_append_own_string (P := P) w base t u ty e i ht hu hi hz hsize hby v n xs hown s h63 hbytes hbase
  refine ⟨v', w', hr, h2, h3, ?_⟩
  have hxl : xs.length = n := by simpa using hown.1
  have hsmall : n + s.size ≤ 9223372036854775807 := by simp only [maxLen] at h63; omega
  rcases hown.2 with ⟨rfl, rfl⟩ | ⟨g, cap, cur, rfl, hbg, hg, hnc, hcm, hcs, htake⟩
  · by_cases hm : s.size = 0
    · left
      rw [h4.2 ⟨rfl, hm⟩]
    · right
      have hq := run_append_nil_string (P := P) w t u ty e i (.int .u8 0) ht hu hi hz s (by omega) (by omega) (by rw [hby]; omega)
      rw [hq] at hr
      injection hr with e1 _
      rw [← e1]; rfl
  · by_cases hroom : n + s.size ≤ cap
    · left
      have hcs' : cur.size = cap := by simpa using hcs
      have hq := run_append_room_string (P := P) w t u ty e i ht hu hi hsize g n cap cur hg s hroom (by omega)
      rw [hq] at hr
      injection hr with e1 _
      rw [← e1]; rfl
    · right
      have holds : ∀ j u, xs[j]? = some u → w.cell? ((⟨g, 0, none⟩ : Addr).add j) = some u := hown.cells (g := g) rfl
      have hq := run_append_grow_string (P := P) w t u ty e i (.int .u8 0) ht hu hi hz ⟨g, 0, none⟩ n cap xs (by rw [hsize]; simpa using hxl) holds s (by omega) (by omega) (by rw [hby]; exact growslice_fits (by omega) (by omega))
      rw [hq] at hr
      injection hr with e1 _
      rw [← e1]; rfl
theorem wpList_appS {ops : Array Oper} {rest : List Oper} {o : Oper} {a : Act} {w : World} {Q : Exit → Act → World → Prop} {t e u : TypeId} (E : Elem P t e 1 1 (.int .u8 0)) (hu : P.underlying u = some .string) {base : Nat} {sv : Value} {n : Nat} {xs : List Value} {l : List UInt8} {B : Nat} {w0 : World}
    (hown : w.ownsRow base e 1 sv n xs) (hb : Below B w0 w) (hgd : o.guard = none) (s x : Operand) (ho : o.op = .call { callee := .builtin .append, args := #[s, x], argTypes := #[t, u] }) (hs : a.eval s = sv) (hxv : a.eval x = .string (strOf l))
    (hsm : n + l.length ≤ 10000000) (hB : B ≤ base) (hbase : base ≤ w.heap.size)
    (h : ∀ v' w', w'.ownsRow base e 1 v' (n + l.length) (xs ++ bytesV l) → Below B w0 w' → Keep sv.ownBlock.toList w w' → (∀ f ∈ v'.ownBlock.toList, f ∈ sv.ownBlock.toList ∨ w.heap.size ≤ f) → wpList P ops Q rest (a.put o.dst v') w') : wpList P ops Q (o :: rest) a w :=
  wpList_plain hgd fun K hK => by
    obtain ⟨i0, hi, hz0, hz1, hz2⟩ := info_parts E.hi
    have hls : (strOf l).size = l.length := rfl
    obtain ⟨v', w', hr, g1, g2, g3⟩ := run_append_str (P := P) w base t u o.type e i0 E.ht hu hi hz0 hz1 hz2 sv n xs hown (strOf l) (by rw [hls]; unfold maxLen; omega) (by rw [hls]; omega) hbase
    unfold Oper.wp execOp
    simp only [ho, resolve, invoke, builtin, Sem.run_bind, Sem.run_pure, Result.andThen_ok, List.map_toArray, List.map_cons, List.map_nil, hs, hxv, hr]
    refine hK _ _ (h v' w' g1 (hb.grown g2 (by omega) (fun q hq => by have := (hown.lt q hq).1; omega)) (Keep.of_grown g2 (fun k hk => .inl (by simp [hk]))) fun f hf => ?_)
    rcases g3 with g3 | g3
    · exact .inl (by rw [← g3]; exact hf)
    · rw [g3] at hf; simp at hf; exact .inr (by omega)
end
end Go.Rw
