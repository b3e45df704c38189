/- time: DeleteFunc, sleeps, wake -/
import Derived.Test.YtdelemmoiaiooaaTk
namespace Go.Rw
open Go Go.RowKit Go.Bs Go.Cl
variable {P : Program} {ops : Array Oper} {rest : List Oper} {o : Oper} {a : Act} {Q : Exit → Act → World → Prop} {w : World} {n : Nat} {xs : List Value}
theorem run_clear_own {t e k bytes : Nat} {z : Value} (E : Elem P t e k bytes z) (hzo : ∀ u ∈ z.cells.toList, u.oneCell' = true) (hk : 0 < k) {base g cap off m c ty : Nat}
    (hown : w.ownsRow base e k (.slice (some ⟨g, 0, none⟩) n cap) n xs) (hoff : n * k ≤ off) (hm : off + m * k ≤ cap * k) :
    ∃ w', (Builtin.clear_ #[t] ty #[.slice (some ⟨g, off, none⟩) m c]).run P w = .ok (.tuple #[]) w' ∧ w'.ownsRow base e k (.slice (some ⟨g, 0, none⟩) n cap) n xs ∧ w.grownBy w' (some g) ∧ w'.heap.size = w.heap.size := by
  obtain ⟨i0, hi0, hz0, hz1, hz2⟩ := info_parts E.hi
  obtain ⟨hx1, hx2⟩ := hown
  rcases hx2 with ⟨hx2, _⟩ | ⟨g', cap', cur, hv, hb, hg, hn, hcm, hcs, ht⟩
  · cases hx2
  cases hv
  have hcl : cur.toList.length = cap * k := by simpa using hcs
  by_cases h0 : m = 0
  · subst h0
    refine ⟨w, by simp [Builtin.clear_, run_underlying E.ht], ⟨hx1, .inr ⟨g, cap, cur, rfl, hb, hg, hn, hcm, hcs, ht⟩⟩, ⟨rfl, rfl, rfl, Nat.le_refl _, fun _ _ _ => rfl⟩, rfl⟩
  · obtain ⟨m', rfl⟩ : ∃ m', m = m' + 1 := ⟨m - 1, by omega⟩
    have hzl : (Builtin.zeroCells z.cells (m' + 1)).toList.length = (m' + 1) * k := by simp [size_zeroCells, E.hz]
    have hst := run_storeCells_at P g off e (Builtin.zeroCells z.cells (m' + 1)).toList 0 cur w hg (by rw [hzl]; simpa [hcs] using hm) (fun u hu => by
      obtain ⟨j, hj, rfl⟩ := List.mem_iff_getElem.1 hu
      simp only [Builtin.zeroCells, Array.toList_ofFn, List.getElem_ofFn]
      have hlt : j % z.cells.size < z.cells.size := Nat.mod_lt _ (by rw [E.hz]; exact hk)
      exact hzo _ (by simp [Array.getD, hlt]))
    rw [hzl, Nat.add_zero] at hst
    have hv : (zeroValue e).run P w = .ok z w := by simp [zeroValue, typeInfo, hi0, hz0]
    have hr : (Builtin.clear_ #[t] ty #[.slice (some ⟨g, off, none⟩) (m' + 1) c]).run P w = .ok (.tuple #[]) (w.setRow g (cur.toList.take off ++ (Builtin.zeroCells z.cells (m' + 1)).toList ++ cur.toList.drop (off + (m' + 1) * k)).toArray) := by
      simp [Builtin.clear_, run_underlying E.ht, hv, hst]
    refine ⟨_, hr, ⟨hx1, .inr ⟨g, cap, _, rfl, hb, setRow_heap w g cur _ e _ hg, hn, hcm, ?_, ?_⟩⟩, ⟨rfl, rfl, rfl, by simp, fun q hq hne => setRow_other w g q _ (by simpa using hne)⟩, by simp⟩
    · rw [List.size_toArray, List.length_append, List.length_append, List.length_take, List.length_drop, hzl, hcl]; omega
    · rw [List.toList_toArray, List.append_assoc, List.take_append_of_le_length (by simp [hcs]; omega), List.take_take, Nat.min_eq_left hoff]; exact ht
/-- clear(s[n:m]) behind a row's elements -/
theorem wpList_clear_own {t e k bytes : Nat} {z : Value} (E : Elem P t e k bytes z) (hzo : ∀ u ∈ z.cells.toList, u.oneCell' = true) (hk : 0 < k) {base g cap off m c : Nat}
    (hown : w.ownsRow base e k (.slice (some ⟨g, 0, none⟩) n cap) n xs) (hgd : o.guard = none) (x : Operand) (ho : o.op = .call { callee := .builtin .clear, args := #[x], argTypes := #[t] })
    (hxv : a.eval x = .slice (some ⟨g, off, none⟩) m c) (hoff : n * k ≤ off) (hm : off + m * k ≤ cap * k)
    (h : ∀ w', w'.ownsRow base e k (.slice (some ⟨g, 0, none⟩) n cap) n xs → w.grownBy w' (some g) → w'.heap.size = w.heap.size → wpList P ops Q rest (a.put o.dst (.tuple #[])) w') : wpList P ops Q (o :: rest) a w := by
  obtain ⟨w', hr, h1, h2, h3⟩ := run_clear_own (P := P) (c := c) (ty := o.type) E hzo hk hown hoff hm
  refine wpList_plain hgd fun K hK => ?_
  unfold Oper.wp execOp
  simp only [ho, resolve, invoke, builtin, Sem.run_bind, Sem.run_pure, Result.andThen_ok, List.map_toArray, List.map_cons, List.map_nil, hxv, hr]
  exact hK _ _ (h w' h1 h2 h3)
theorem own_cut {base e k g cap : Nat} (h : w.ownsRow base e k (.slice (some ⟨g, 0, none⟩) n cap) n xs) {m : Nat} (hm : m ≤ n) : w.ownsRow base e k (.slice (some ⟨g, 0, none⟩) m cap) m (xs.take (m * k)) := by
  obtain ⟨h1, h2⟩ := h
  have hmk : m * k ≤ n * k := Nat.mul_le_mul_right k hm
  refine ⟨by rw [List.length_take, h1]; omega, ?_⟩
  rcases h2 with ⟨h2, _⟩ | ⟨g', cap', cur, hv, hb, hg, hn, hcm, hcs, ht⟩
  · cases h2
  · cases hv
    refine .inr ⟨g, cap, cur, rfl, hb, hg, by omega, hcm, hcs, ?_⟩
    rw [← ht, List.take_take]
    congr 1; omega
end Go.Rw
namespace Go.Ti
open Go Go.RowKit Go.Bs Go.Cl Go.Rw Go.Wi
def pT (t : Int) : Int → Bool := fun x => !decide (x = t)
theorem delT_out {l : List Int} {t : Int} (h : t ∉ l) : delT l t = l := by
  unfold delT
  rw [List.filter_eq_self]
  intro x hx
  simp only [Bool.not_eq_true', decide_eq_false_iff_not]
  intro e; exact h (e ▸ hx)
theorem take_at {l : List Int} {k : Nat} (h : k < l.length) : l.take (k + 1) = l.take k ++ [at_ l k] := by
  rw [List.take_add_one, at_get h]; simp
theorem drop_at {l ys : List Int} {j : Nat} (h : ys.drop j = l.drop j) (hj : j < l.length) (hy : ys.length = l.length) : at_ ys j = at_ l j := by
  have h1 : (ys.drop j)[0]? = (l.drop j)[0]? := by rw [h]
  rw [List.getElem?_drop, List.getElem?_drop, Nat.add_zero, at_get hj, at_get (l := ys) (by omega)] at h1
  injection h1
theorem flat_takeT (l : List Int) (m : Nat) : (l.flatMap encT).take (m * 1) = (l.take m).flatMap encT := flat_take encT encT_len l m
end Go.Ti
namespace Go.Proofs.Ytdelemmoiaiooaa
open Go.RowKit Go.Bs Go.Cl Go.Rw Go.Ti Go.Wi
theorem elI_one : ∀ u ∈ (Value.int .i64 0).cells.toList, u.oneCell' = true := by intro u hu; simp [Value.cells] at hu; rw [hu]; rfl
set_option maxRecDepth 100000 in
set_option maxHeartbeats 2000000 in
theorem delf_any (v : Value) (l : List Int) (t : Int) (r0 base : Nat) (w : World) (hl : l.length ≤ 1000000) (h : w.ownsRow base 3 1 v l.length (l.flatMap encT)) (c : w.cell? ⟨r0, 0, none⟩ = some (.int .i64 t)) (hr0 : r0 < w.heap.size) (hr1 : v.ownBlock ≠ some r0) :
    Calls Try.prog 59 #[v, .func (.func 60) #[] #[.pointer (some ⟨r0, 0, none⟩)]] w fun e w' => ∃ v', e = .returned v' ∧ w'.ownsRow base 3 1 v' (delT l t).length ((delT l t).flatMap encT) ∧ Keep v.ownBlock.toList w w' ∧ v'.ownBlock = v.ownBlock := by
  have HS := Lib.hid (SlT.of_own h)
  have hcase := own_cases h
  obtain ⟨va, vc, rfl⟩ := own_slice h
  have H := Lib.hid h; clear h
  have Hcase := Lib.hid hcase; clear hcase
  go_enter Try.func59, Try.ntmps59
  go_wp2_with fail
  refine (indexf_any _ l t r0 _ hl HS.out c hr0).mono ?_
  rintro e w1 ⟨r, rfl, hix, hb1⟩
  rcases hix with ⟨rfl, hn⟩ | ⟨i0, rfl, hi0, hit, hino⟩
  · have Hd := Lib.hid (delT_out hn)
    have HR := Lib.hid (own_below H.out hb1 (Nat.le_refl _))
    have HK := Lib.hid (Keep.of_below' (F := (Value.slice va l.length vc).ownBlock.toList) hb1)
    clear hb1
    go_wp2
    go_ret
    rw [Hd.out]
    exact ⟨_, rfl, HR.out, HK.out, rfl⟩
  · rcases Hcase.out with ⟨_, h0, _⟩ | ⟨g, cap, hv, hbg, hgl, hcap⟩
    · omega
    cases hv
    have hg0 : r0 ≠ g := fun e => hr1 (by rw [e]; rfl)
    have HR := Lib.hid (own_below H.out hb1 (Nat.le_refl _))
    have HK : Hid (Keep [g] w w1) := Lib.hid (Keep.of_below' hb1)
    clear hb1 H HS Hcase
    have hstart : l.take i0 = (l.take (i0 + 1)).filter (pT t) := by
      rw [take_at hi0, List.filter_append, hit, show [t].filter (pT t) = [] by simp [pT], List.append_nil]
      symm
      rw [List.filter_eq_self]
      intro x hx
      obtain ⟨j, hj, rfl⟩ := List.mem_iff_getElem.1 hx
      simp only [List.length_take] at hj
      have := hino j (by omega)
      simp only [at_] at this
      rw [List.getD_eq_getElem?_getD, List.getElem?_eq_getElem (by omega)] at this
      simp only [pT, Bool.not_eq_true', decide_eq_false_iff_not, List.getElem_take]
      exact this
    have Hst := Lib.hid hstart
    clear hstart hino hit
    have hne1 : ((i0 : Int) == -1) = false := by
      rw [beq_eq_false_iff_ne]; omega
    go_wp2
    go_loopw [5, 6] (fun iv jv wr => ∃ (i j : Nat) (ys : List Int), iv = .int .i64 i ∧ jv = .int .i64 j ∧ i < j ∧ j ≤ l.length ∧ ys.length = l.length ∧ ys.take i = (l.take j).filter (pT t) ∧ ys.drop j = l.drop j ∧ wr.ownsRow base 3 1 (.slice (some ⟨g, 0, none⟩) l.length vc) l.length (ys.flatMap encT) ∧ Keep [g] w wr) (fun _ jv _ => l.length - (intOf jv).toNat)
    case atStart => exact ⟨i0, i0 + 1, l, rfl, by go_num, by omega, by omega, rfl, Hst.out, rfl, HR.out, HK.out⟩
    case round =>
      clear HR HK Hst hi0
      obtain ⟨i, j, ys, rfl, rfl, hij, hj, hyl, hyt, hyd, hrow, hkeep⟩ := hrel
      have Hrow := Lib.hid hrow; have HKe := Lib.hid hkeep; have Hyt := Lib.hid hyt; have Hyd := Lib.hid hyd; have Hyl := Lib.hid hyl
      have hsz := hkeep.size
      clear hkeep
      by_cases hlt : j < l.length
      · have hat := drop_at hyd hlt hyl
        have cj : wr.cell? ⟨g, j, none⟩ = some (.int .i64 (at_ l j)) := by
          have := own_cell hrow rfl (flat_get encT encT_len ys j 0 _ (at_get (by omega)) (by omega))
          rw [hat] at this
          simpa using this
        have ci : wr.cell? ⟨g, i, none⟩ = some (.int .i64 (at_ ys i)) := by
          have := own_cell hrow rfl (flat_get encT encT_len ys i 0 _ (at_get (by omega)) (by omega))
          simpa using this
        have fi := own_frozen hrow i
        have cr : wr.cell? ⟨r0, 0, none⟩ = some (.int .i64 t) := (HKe.out.cell hr0 (by simpa using hg0)).trans c
        have hd1 : ys.drop (j + 1) = l.drop (j + 1) := by rw [← List.drop_drop, hyd, List.drop_drop]
        have Hd1 := Lib.hid hd1
        clear hyt hyd hrow hd1 hyl
        go_wp2_with fail
        refine (wake1_any (at_ l j) t r0 _ cr).mono ?_
        rintro e w2 ⟨rfl, rfl⟩
        by_cases he : at_ l j = t
        · rw [show decide (at_ l j = t) = true from by simp [he]]
          have Hf : Hid (ys.take i = (l.take (j + 1)).filter (pT t)) := Lib.hid (by
            rw [take_at hlt, List.filter_append, he, show [t].filter (pT t) = [] by simp [pT], List.append_nil]; exact Hyt.out)
          clear cj ci fi cr
          go_wp2
          go_roundw
          case rel => exact ⟨i, j + 1, ys, rfl, by go_num, by omega, hlt, Hyl.out, Hf.out, Hd1.out, Hrow.out, HKe.out⟩
          case measure => simp [intOf]; omega
        · rw [show decide (at_ l j = t) = false from by simp [he]]
          have hset := own_set Hrow.out (j := i) (u := .int .i64 (at_ l j)) (by rw [flat_length encT encT_len, Hyl.out]; omega)
          have hfs := flat_set encT encT_len ys i 0 (at_ ys i) (at_ l j) (.int .i64 (at_ l j)) (at_get (by have := Hyl.out; omega)) (by omega) rfl
          rw [Nat.mul_one, Nat.add_zero] at hfs
          rw [hfs] at hset
          have Hset := Lib.hid hset
          have Hyl2 : Hid ((ys.set i (at_ l j)).length = l.length) := Lib.hid (by rw [List.length_set]; exact Hyl.out)
          have Hf : Hid ((ys.set i (at_ l j)).take (i + 1) = (l.take (j + 1)).filter (pT t)) := Lib.hid (by
            have hyl' := Hyl.out
            rw [take_at hlt, List.filter_append, ← Hyt.out, show [at_ l j].filter (pT t) = [at_ l j] by simp [pT, he], List.take_add_one, List.take_set, List.set_eq_of_length_le (by simp; omega), List.getElem?_set_self (by omega)]
            rfl)
          have Hdd : Hid ((ys.set i (at_ l j)).drop (j + 1) = l.drop (j + 1)) := Lib.hid (by
            rw [List.drop_set_of_lt (by omega)]; exact Hd1.out)
          have HK2 := Lib.hid (HKe.out.setCell (p := ⟨g, i, none⟩) (.inl (by simp)) (.int .i64 (at_ l j)))
          clear hset hfs cj cr
          go_wp2
          go_roundw
          case rel => exact ⟨i + 1, j + 1, ys.set i (at_ l j), by go_num, by go_num, by omega, hlt, Hyl2.out, Hf.out, Hdd.out, Hset.out, HK2.out⟩
          case measure => simp [intOf]; omega
      · obtain rfl : j = l.length := by omega
        have hcut := own_cut hrow (m := i) (by omega)
        rw [flat_takeT, hyt, List.take_length] at hcut
        have hdl : (delT l t).length = i := by
          have := congrArg List.length hyt
          rw [List.length_take, List.take_length, hyl] at this
          unfold delT
          rw [show (fun x => !decide (x = t)) = pT t from rfl, ← this]; omega
        have Hcut := Lib.hid hcut
        have Hdl := Lib.hid hdl
        clear hcut hdl hyt hyd hrow hyl
        go_wp2_with (with_reducible refine wpList_clear_own elI elI_one (by decide) Hcut.out rfl _ rfl rfl ?h1 ?h2 ?_)
        case h1 => omega
        case h2 => omega
        intro w2 hown2 hg2 hs2
        have Ho2 : Hid (w2.ownsRow base 3 1 (.slice (some ⟨g, 0, none⟩) i vc) (delT l t).length ((delT l t).flatMap encT)) := Lib.hid (by rw [Hdl.out]; exact hown2)
        have HK2 := Lib.hid (HKe.out.trans (Keep.of_grown (F := [g]) hg2 (fun k h => by cases h; exact .inl (by simp))) (fun f hf => .inl hf))
        clear hown2 hg2 hs2
        go_wp2
        go_ret
        exact ⟨_, rfl, Ho2.out, by simpa [Value.ownBlock] using HK2.out, rfl⟩
end Go.Proofs.Ytdelemmoiaiooaa
