/- names: find, register, release, do -/
import Derived.Test.YtfgbkfifiioeiaaNe
import Derived.Test.YtfgbkfifiioeiaaIw
namespace Go.Rw
open Go Go.RowKit Go.Bs Go.Cl
variable {P : Program} {ops : Array Oper} {rest : List Oper} {o : Oper} {a : Act} {Q : Exit → Act → World → Prop} {w : World} {n : Nat} {xs : List Value}
/-- append(s[:i], s[j:]...) in the row itself -/
theorem wpList_append_self {t e k bytes : Nat} {z : Value} (E : Elem P t e k bytes z) {base g cap i m : Nat} {news : List Value}
    (hown : w.ownsRow base e k (.slice (some ⟨g, 0, none⟩) n cap) n xs) (s x : Operand) (hgd : o.guard = none) (ho : o.op = .call { callee := .builtin .append, args := #[s, x], argTypes := #[t, t] })
    {ad : Addr} {c : Nat} (hs : a.eval s = .slice (some ⟨g, 0, none⟩) i cap) (hxv : a.eval x = .slice (some ad) m c) (hl : news.length = m * k) (hnews : ∀ j u, news[j]? = some u → w.cell? (ad.add j) = some u) (h1 : ∀ u ∈ news, u.oneCell' = true) (him : i + m ≤ n)
    (h : ∀ w', w'.ownsRow base e k (.slice (some ⟨g, 0, none⟩) (i + m) cap) (i + m) (xs.take (i * k) ++ news) → w.grownBy w' (some g) → w'.heap.size = w.heap.size → wpList P ops Q rest (a.put o.dst (.slice (some ⟨g, 0, none⟩) (i + m) cap)) w') : wpList P ops Q (o :: rest) a w := by
  obtain ⟨i0, hi0, hz0, hz1, hz2⟩ := info_parts E.hi
  obtain ⟨hx1, hx2⟩ := hown
  rcases hx2 with ⟨hx2, _⟩ | ⟨g', cap', cur, hv, hb, hg, hn, hcm, hcs, ht⟩
  · cases hx2
  cases hv
  have hik : i * k + m * k ≤ n * k := by rw [← Nat.add_mul]; exact Nat.mul_le_mul_right _ him
  have hnk : n * k ≤ cap * k := Nat.mul_le_mul_right _ hn
  have hcl : cur.toList.length = cap * k := by simpa using hcs
  refine wpList_plain hgd fun K hK => ?_
  have hr := run_append_room (P := P) w t o.type e i0 E.ht hi0 g i cap cur hg ad m c news (by rw [hl, hz1]) hnews h1 (by omega) (by rw [hl, hz1]; omega)
  rw [hz1] at hr
  unfold Oper.wp execOp
  simp only [ho, resolve, invoke, builtin, Sem.run_bind, Sem.run_pure, Result.andThen_ok, List.map_toArray, List.map_cons, List.map_nil, hs, hxv, hr]
  refine hK _ _ (h _ ⟨?_, .inr ⟨g, cap, _, rfl, hb, setRow_heap w g cur _ e _ hg, by omega, hcm, ?_, ?_⟩⟩ ⟨rfl, rfl, rfl, by simp, fun q hq hne => setRow_other w g q _ (by simpa using hne)⟩ (by simp))
  · rw [List.length_append, List.length_take, hl, hx1, Nat.min_eq_left (by omega), ← Nat.add_mul]
  · rw [List.size_toArray, List.length_append, List.length_append, List.length_take, List.length_drop, hl, hcl]; omega
  · have e1 : xs.take (i * k) = cur.toList.take (i * k) := by rw [← ht, List.take_take, Nat.min_eq_left (by omega)]
    rw [List.toList_toArray, List.take_left' (by rw [List.length_append, List.length_take, hl, hcl, Nat.add_mul]; omega), e1]
theorem run_clear_own {t e k bytes : Nat} {z : Value} (E : Elem P t e k bytes z) (hzo : ∀ u ∈ z.cells.toList, u.oneCell' = true) (hk : 0 < k) {base g cap off m c ty : Nat}
    (hown : w.ownsRow base e k (.slice (some ⟨g, 0, none⟩) n cap) n xs) (hoff : n * k ≤ off) (hm : off + m * k ≤ cap * k) :
    ∃ w', (Builtin.clear_ #[t] ty #[.slice (some ⟨g, off, none⟩) m c]).run P w = .ok (.tuple #[]) w' ∧ w'.ownsRow base e k (.slice (some ⟨g, 0, none⟩) n cap) n xs ∧ w.grownBy w' (some g) ∧ w'.heap.size = w.heap.size := by
  obtain ⟨i0, hi0, hz0, hz1, hz2⟩ := info_parts E.hi
  obtain ⟨hx1, hx2⟩ := hown
  rcases hx2 with ⟨hx2, _⟩ | ⟨g', cap', cur, hv, hb, hg, hn, hcm, hcs, ht⟩
  · cases hx2
  cases hv
  have hcl : cur.toList.length = cap * k := by simpa using hcs
  by_cases h0 : m = 0
  · subst h0
    refine ⟨w, by simp [Builtin.clear_, run_underlying E.ht], ⟨hx1, .inr ⟨g, cap, cur, rfl, hb, hg, hn, hcm, hcs, ht⟩⟩, ⟨rfl, rfl, rfl, Nat.le_refl _, fun _ _ _ => rfl⟩, rfl⟩
  · obtain ⟨m', rfl⟩ : ∃ m', m = m' + 1 := ⟨m - 1, by omega⟩
    have hzl : (Builtin.zeroCells z.cells (m' + 1)).toList.length = (m' + 1) * k := by simp [size_zeroCells, E.hz]
    have hst := run_storeCells_at P g off e (Builtin.zeroCells z.cells (m' + 1)).toList 0 cur w hg (by rw [hzl]; simpa [hcs] using hm) (fun u hu => by
      obtain ⟨j, hj, rfl⟩ := List.mem_iff_getElem.1 hu
      simp only [Builtin.zeroCells, Array.toList_ofFn, List.getElem_ofFn]
      have hlt : j % z.cells.size < z.cells.size := Nat.mod_lt _ (by rw [E.hz]; exact hk)
      exact hzo _ (by simp [Array.getD, hlt]))
    rw [hzl, Nat.add_zero] at hst
    have hv : (zeroValue e).run P w = .ok z w := by simp [zeroValue, typeInfo, hi0, hz0]
    have hr : (Builtin.clear_ #[t] ty #[.slice (some ⟨g, off, none⟩) (m' + 1) c]).run P w = .ok (.tuple #[]) (w.setRow g (cur.toList.take off ++ (Builtin.zeroCells z.cells (m' + 1)).toList ++ cur.toList.drop (off + (m' + 1) * k)).toArray) := by
      simp [Builtin.clear_, run_underlying E.ht, hv, hst]
    refine ⟨_, hr, ⟨hx1, .inr ⟨g, cap, _, rfl, hb, setRow_heap w g cur _ e _ hg, hn, hcm, ?_, ?_⟩⟩, ⟨rfl, rfl, rfl, by simp, fun q hq hne => setRow_other w g q _ (by simpa using hne)⟩, by simp⟩
    · rw [List.size_toArray, List.length_append, List.length_append, List.length_take, List.length_drop, hzl, hcl]; omega
    · rw [List.toList_toArray, List.append_assoc, List.take_append_of_le_length (by simp [hcs]; omega), List.take_take, Nat.min_eq_left hoff]; exact ht
/-- clear(s[n:m]) behind a row's elements -/
theorem wpList_clear_own {t e k bytes : Nat} {z : Value} (E : Elem P t e k bytes z) (hzo : ∀ u ∈ z.cells.toList, u.oneCell' = true) (hk : 0 < k) {base g cap off m c : Nat}
    (hown : w.ownsRow base e k (.slice (some ⟨g, 0, none⟩) n cap) n xs) (hgd : o.guard = none) (x : Operand) (ho : o.op = .call { callee := .builtin .clear, args := #[x], argTypes := #[t] })
    (hxv : a.eval x = .slice (some ⟨g, off, none⟩) m c) (hoff : n * k ≤ off) (hm : off + m * k ≤ cap * k)
    (h : ∀ w', w'.ownsRow base e k (.slice (some ⟨g, 0, none⟩) n cap) n xs → w.grownBy w' (some g) → w'.heap.size = w.heap.size → wpList P ops Q rest (a.put o.dst (.tuple #[])) w') : wpList P ops Q (o :: rest) a w := by
  obtain ⟨w', hr, h1, h2, h3⟩ := run_clear_own (P := P) (c := c) (ty := o.type) E hzo hk hown hoff hm
  refine wpList_plain hgd fun K hK => ?_
  unfold Oper.wp execOp
  simp only [ho, resolve, invoke, builtin, Sem.run_bind, Sem.run_pure, Result.andThen_ok, List.map_toArray, List.map_cons, List.map_nil, hxv, hr]
  exact hK _ _ (h w' h1 h2 h3)
end Go.Rw
namespace Go.Nm
open Go Go.RowKit Go.Bs Go.Cl Go.Rw
/-- the task that has a name, or 0 -/
def fnd (l : List Nm) (s : List UInt8) : Int := match l.find? (fun x => x.s == s) with | some x => x.t | none => 0
def insN (l : List Nm) (x : Nm) : List Nm := l.filter (fun z => slt z.s x.s) ++ x :: l.filter (fun z => slt x.s z.s)
def delN (l : List Nm) (s : List UInt8) : List Nm := l.filter (fun z => z.s != s)
def regN (l : List Nm) (s : List UInt8) (t : Int) : List Nm × Int :=
  if fnd l s = t then (l, 0) else if fnd l s ≠ 0 then (l, 9) else if 4 ≤ cnt l t ∨ 40 ≤ l.length then (l, 13) else (insN l ⟨s, t⟩, 0)
def relN (l : List Nm) (s : List UInt8) (t : Int) : List Nm × Int :=
  if fnd l s = 0 then (l, 8) else if fnd l s = t then (delN l s, 0) else (l, 10)
def doN (l : List Nm) (op : Int) (s : List UInt8) (t : Int) : List Nm × Int × Int :=
  if nmOK s = false then (l, 0, 15)
  else if op = 0 then (l, fnd l s, if fnd l s = 0 then 8 else 0)
  else if op = 1 then ((regN l s t).1, if (regN l s t).2 = 0 then t else 0, (regN l s t).2)
  else ((relN l s t).1, if (relN l s t).2 = 0 then t else 0, (relN l s t).2)
theorem take_lt {l : List Nm} {i : Nat} {s : List UInt8} (h : ∀ k, k < i → slt (nmAt l k).s s = true) : ∀ z ∈ l.take i, slt z.s s = true := by
  intro z hz
  obtain ⟨k, hk, rfl⟩ := List.mem_iff_getElem.1 hz
  simp at hk
  have := h k (by omega)
  simpa [nmAt, show k < l.length by omega] using this
theorem drop_all {l : List Nm} {i : Nat} {p : Nm → Prop} (h : ∀ k, i ≤ k → k < l.length → p (nmAt l k)) : ∀ z ∈ l.drop i, p z := by
  intro z hz
  obtain ⟨k, hk, rfl⟩ := List.mem_iff_getElem.1 hz
  simp at hk
  have := h (i + k) (by omega) (by omega)
  simpa [nmAt, show i + k < l.length by omega] using this
theorem split_at {l : List Nm} {i : Nat} (hi : i < l.length) : l = l.take i ++ nmAt l i :: l.drop (i + 1) := by
  rw [← nm_getE hi, ← List.drop_eq_getElem_cons hi, List.take_append_drop]
theorem fnd_at {l : List Nm} {s : List UInt8} {i : Nat} (hi : i < l.length) (h1 : ∀ k, k < i → slt (nmAt l k).s s = true) (h : (nmAt l i).s = s) : fnd l s = (nmAt l i).t := by
  have hl := split_at hi
  obtain ⟨z, hz⟩ : ∃ z, nmAt l i = z := ⟨_, rfl⟩
  rw [hz] at hl h ⊢
  have ht := take_lt h1
  have : l.find? (fun x => x.s == s) = some z := by
    rw [hl, List.find?_append, List.find?_eq_none.2 (fun z hz => by have := slt_ne (ht z hz); simpa using this)]
    simp [h]
  unfold fnd; rw [this]
theorem fnd_none {l : List Nm} {s : List UInt8} (h : ∀ x ∈ l, x.s ≠ s) : fnd l s = 0 := by
  unfold fnd
  rw [List.find?_eq_none.2 (fun x hx => by simpa using h x hx)]
theorem not_in {l : List Nm} {s : List UInt8} {i : Nat} (h1 : ∀ k, k < i → slt (nmAt l k).s s = true) (h2 : ∀ k, i ≤ k → k < l.length → slt s (nmAt l k).s = true) : ∀ x ∈ l, x.s ≠ s := fun x hx => by
  obtain ⟨k, hk, rfl⟩ := nm_mem.1 hx
  by_cases h : k < i
  · exact slt_ne (h1 k h)
  · exact fun e => slt_ne (h2 k (by omega) hk) e.symm
theorem ins_eq {l : List Nm} {i : Nat} {x : Nm} (h1 : ∀ k, k < i → slt (nmAt l k).s x.s = true) (h2 : ∀ k, i ≤ k → k < l.length → slt x.s (nmAt l k).s = true) : l.take i ++ x :: l.drop i = insN l x := by
  have ht := take_lt h1
  have hd := drop_all (p := fun z => slt x.s z.s = true) h2
  have e1 : l.filter (fun z => slt z.s x.s) = l.take i := by
    conv => lhs; rw [← List.take_append_drop i l]
    rw [List.filter_append, List.filter_eq_self.2 (fun z hz => ht z hz), List.filter_eq_nil_iff.2 (fun z hz => by rw [slt_asymm (hd z hz)]; simp), List.append_nil]
  have e2 : l.filter (fun z => slt x.s z.s) = l.drop i := by
    conv => lhs; rw [← List.take_append_drop i l]
    rw [List.filter_append, List.filter_eq_nil_iff.2 (fun z hz => by rw [slt_asymm (ht z hz)]; simp), List.filter_eq_self.2 (fun z hz => hd z hz), List.nil_append]
  unfold insN
  rw [e1, e2]
theorem del_eq {l : List Nm} (hs : Srt l) {i : Nat} {s : List UInt8} (hi : i < l.length) (h : (nmAt l i).s = s) : l.take i ++ l.drop (i + 1) = delN l s := by
  have hl := split_at hi
  have ht := take_lt (l := l) (i := i) (s := (nmAt l i).s) (fun k hk => srt_at hs hk hi)
  have hd := drop_all (l := l) (i := i + 1) (p := fun z => slt (nmAt l i).s z.s = true) (fun k hk hk2 => srt_at hs (show i < k by omega) hk2)
  obtain ⟨z, hz⟩ : ∃ z, nmAt l i = z := ⟨_, rfl⟩
  rw [hz] at hl h ht hd
  subst h
  unfold delN
  conv => rhs; rw [hl]
  rw [List.filter_append, List.filter_eq_self.2 (fun y hy => by have := slt_ne (ht y hy); simpa using this), List.filter_cons_of_neg (by simp), List.filter_eq_self.2 (fun y hy => by have := slt_ne (hd y hy); simpa using fun e => this e.symm)]
/-- where a name is, or would be -/
def BsP (l : List Nm) (s : List UInt8) (w : World) (e : Ending) (w' : World) : Prop :=
  ∃ i : Nat, i ≤ l.length ∧ (∀ k, k < i → slt (nmAt l k).s s = true) ∧ (∀ k, i ≤ k → k < l.length → slt (nmAt l k).s s = false) ∧ e = .returned (.tuple #[.int .i64 i, .bool (decide (i < l.length) && decide ((nmAt l i).s = s))]) ∧ Below w.heap.size w w'
theorem beyond {l : List Nm} (hs : Srt l) {i : Nat} {s : List UInt8} (h2 : ∀ k, i ≤ k → k < l.length → slt (nmAt l k).s s = false) (hn : ¬ (i < l.length ∧ (nmAt l i).s = s)) : ∀ k, i ≤ k → k < l.length → slt s (nmAt l k).s = true := fun k hk hk2 => by
  by_cases e : (nmAt l k).s = s
  · by_cases ei : k = i
    · subst ei; exact absurd ⟨hk2, e⟩ hn
    · have h3 := srt_at hs (show i < k by omega) hk2
      rw [e] at h3
      rw [h2 i (Nat.le_refl _) (by omega)] at h3
      cases h3
  · rcases slt_total e with h | h
    · rw [h2 k hk hk2] at h; cases h
    · exact h
def RetF (l : List Nm) (s : List UInt8) (w : World) (e : Ending) (w' : World) : Prop :=
  ∃ i : Nat, i ≤ l.length ∧ (∀ k, k < i → slt (nmAt l k).s s = true) ∧ ((i < l.length ∧ (nmAt l i).s = s) ∨ ((∀ k, i ≤ k → k < l.length → slt s (nmAt l k).s = true) ∧ fnd l s = 0)) ∧ e = .returned (.tuple #[.int .i64 i, .int .i64 (fnd l s)]) ∧ Below w.heap.size w w'
def RetR (r : List Nm × Int) (w : World) (e : Ending) (w' : World) : Prop := ∃ v, e = .returned (.tuple #[v, .int .i64 r.2]) ∧ SlN w' v r.1 ∧ Below w.heap.size w w'
end Go.Nm
namespace Go.Proofs.Ytfgbkfifiioeiaa
open Go.RowKit Go.Bs Go.Cl Go.Rw Go.Nm Go.Wi
theorem _root_.Go.World.grownBy.trans' {a b c : World} {g : Nat} (h : a.drew.grownBy b (some g)) (k : b.grownBy c (some g)) : a.grownBy c (some g) :=
  ⟨k.os.trans h.os, k.tape.trans h.tape, k.output.trans h.output, Nat.le_trans h.size k.size, fun i hi hn => (k.block i (Nat.lt_of_lt_of_le hi h.size) hn).trans (h.block i hi hn)⟩
set_option maxHeartbeats 400000 in
theorem clone66 {F : List Nat} {v : Value} {n : Nat} {xs : List Value} (w : World) (hl : n ≤ 1000000) (hr : Raw F 2 w v n xs) :
    Calls Try.prog 66 #[v] w fun e w' => ∃ v', e = .returned v' ∧ w'.ownsRow w.heap.size 59 2 v' n xs ∧ Below w.heap.size w w' := by
  have q32 : ∀ (w : World) (a : Option Addr) (n c n' c' : Nat), (binOp .eql 28 (.slice a n c) (.slice none n' c')).run Try.prog w = .ok (.bool a.isNone) w := fun w a n c n' c' => Lib.run_eql_slice_nil w _ _ a n c n' c' Try.underlying28
  obtain ⟨a, cap, hv⟩ : ∃ a cap, v = .slice a n cap := by obtain ⟨_, _, a, cap, h, _⟩ := hr; exact ⟨a, cap, h⟩
  have Hr := Lib.hid (hr.alloc (.cells #[] 59))
  have Hemp := Lib.hid (own_empty w w.heap.size 59 2 (Nat.le_refl _))
  cases a with
  | none =>
    have h0 : n = 0 ∧ xs = [] := by
      rcases hr.cases with ⟨h0, h1, _⟩ | ⟨_, b, off, c, h, _⟩
      · exact ⟨h0, h1⟩
      · rw [hv] at h; cases h
    obtain ⟨rfl, rfl⟩ := h0
    subst hv
    go_enter Try.func66, Try.ntmps66
    go_wp2
    go_ret
    exact ⟨_, rfl, World.ownsRow_nil _ _ _ _, Below.refl _ _⟩
  | some ad =>
    subst hv
    clear hr
    go_enter Try.func66, Try.ntmps66
    go_wp2_with (at_builtin; refine wpList_append_raw el28 Try.underlying28 Hemp.out Hr.out rfl _ _ rfl rfl rfl ?c3 ?c4 ?c5 ?_)
    case c3 => unfold maxLen; omega
    case c4 => omega
    case c5 => simp
    · intro v' w1 hown hgrow
      have hfin : Below w.heap.size w w1 := ((Below.refl w.heap.size w).alloc (Nat.le_refl _) _).grown hgrow (by simp) (fun q hq => by simp [Value.ownBlock] at hq; omega)
      have Hown : Hid (w1.ownsRow w.heap.size 59 2 v' n xs) := Lib.hid (by simpa using hown)
      clear hown hgrow
      go_wp2
      go_ret
      exact ⟨_, rfl, Hown.out, hfin⟩
theorem el28_one : ∀ u ∈ (Value.agg #[.string ⟨#[]⟩, .int .i64 0]).cells.toList, u.oneCell' = true := by intro u hu; simp [Value.cells] at hu; rcases hu with rfl | rfl <;> rfl
set_option maxRecDepth 100000 in
set_option maxHeartbeats 2000000 in
theorem delete_own {base g cap n : Nat} {l : List Nm} (i : Nat) (w : World) (hn : l.length = n + 1) (hi : i ≤ n) (hl : n ≤ 1000000) (h : w.ownsRow base 59 2 (.slice (some ⟨g, 0, none⟩) (n + 1) cap) (n + 1) (l.flatMap encN)) :
    Calls Try.prog 67 #[.slice (some ⟨g, 0, none⟩) (n + 1) cap, .int .i64 i, .int .i64 (i + 1)] w fun e w' => e = .returned (.slice (some ⟨g, 0, none⟩) n cap) ∧ w'.ownsRow base 59 2 (.slice (some ⟨g, 0, none⟩) n cap) n ((l.take i ++ l.drop (i + 1)).flatMap encN) ∧ w.grownBy w' (some g) := by
  have hR := Raw.of_own (F := []) h (encN_one l) (fun f hf => by cases hf)
  have hcap : n + 1 ≤ cap ∧ cap ≤ maxLen := by obtain ⟨_, _, _, _, e, a, b, _⟩ := hR; cases e; exact ⟨a, b⟩
  have hcap2 : cap ≤ 9223372036854775807 := by have := hcap.2; unfold maxLen at this; omega
  obtain ⟨hc1, _⟩ := hcap
  obtain ⟨ad, hsl, hT⟩ := Raw.fromS hR Try.underlying28 (show (Try.prog.info? 59).map (·.size) = some 2 by kernel_rfl) (lo := i + 1) (by omega)
  rw [flat_drop encN encN_len] at hT
  rw [Int.natCast_add, Int.natCast_one] at hsl
  have hm : n + 1 - (i + 1) = n - i := by omega
  rw [hm] at hT hsl
  have HT := Lib.hid hT
  have HO := Lib.hid h
  have HN := Lib.hid hn
  have hne2 : ((i : Int) == i + 1) = false := by simp; omega
  have hi1 : (i : Int) ≤ n := by omega
  have hcn : ¬ cap = n := by omega
  clear hT hR h hm hn
  go_enter Try.func67, Try.ntmps67
  go_wp2
  refine Txt.Ty.wp_tree [] [] [] [] [0, 1, 2, 3, 4, 5] (.alt [6, 7] (.done) (.no)) (by kernel_rfl) (by kernel_rfl) (by kernel_rfl) (by kernel_rfl) (fun b hb => by cases hb) ?_
  (try simp only [Txt.pick, List.getElem?_cons_succ, List.getElem?_cons_zero])
  go_wp2
  refine Txt.RunPost.mk ?_
  refine Txt.Ty.wpTr_alt ?_ Txt.Ty.wpTr_no
  (try simp only [Txt.pick, List.getElem?_cons_succ, List.getElem?_cons_zero])
  go_wp2_with (at_builtin; refine wpList_append_self el28 (own_drew HO.out) _ _ rfl rfl rfl rfl HT.out.len HT.out.cellsS (encN_one _) ?c3 ?_)
  case c3 => omega
  intro w1 hown hg hs
  have hin : i + (n - i) = n := by omega
  (try rw [hin] at hown); (try rw [hin])
  rw [flat_take encN encN_len, ← List.flatMap_append] at hown
  have HO1 : Hid (w1.ownsRow base 59 2 (.slice (some ⟨g, 0, none⟩) n cap) n ((l.take i ++ l.drop (i + 1)).flatMap encN)) := Lib.hid hown
  have HG := Lib.hid hg
  clear hown hg hs hin HT HO hsl
  go_wp2
  refine Txt.SegPost.mk Txt.Ty.Shown.none ?_
  (try simp only [Txt.pick, List.getElem?_cons_succ, List.getElem?_cons_zero])
  go_wp2
  refine Txt.RunPost.mk ?_
  refine Txt.Ty.wpTr_done (by rfl) trivial ?_
  go_wp2_with (with_reducible refine wpList_clear_own el28 el28_one (by decide) HO1.out rfl _ rfl rfl ?h1 ?h2 ?_)
  case h1 => omega
  case h2 => omega
  intro w2 hown2 hg2 hs2
  have HO2 := Lib.hid hown2
  have hgg := HG.out.trans' hg2
  clear hown2 hg2 hs2
  go_wp2
  go_ret
  exact ⟨rfl, by rw [List.flatMap_append]; exact HO2.out, hgg⟩
set_option maxHeartbeats 1000000 in
theorem find1_any (x : Nm) (s : List UInt8) (r : Int) (w : World) (h : cmpS x.s s = r) : Calls Try.prog 63 #[.agg #[.string (strOf x.s), .int .i64 x.t], .string (strOf s)] w fun e w' => e = .returned (.int .i64 r) ∧ Below w.heap.size w w' := by
  have hb : Below w.heap.size w (w.alloc (.cells #[.string (strOf x.s), .int .i64 x.t] 59)) := (Below.refl _ w).alloc (Nat.le_refl _) _
  have Hh := Lib.hid h
  clear h
  go_enter Try.func63, Try.ntmps63
  go_wp2_with fail
  refine (compare_any x.s s _).mono ?_
  rw [Hh.out]
  rintro e w1 ⟨rfl, rfl⟩
  go_wp2
  go_ret
  exact ⟨rfl, hb⟩
set_option maxRecDepth 100000 in
set_option maxHeartbeats 1000000 in
theorem bsearch_any (v : Value) (l : List Nm) (s : List UInt8) (w : World) (hl : l.length ≤ 1000000) (h : SlN w v l) (hs : Srt l) :
    Calls Try.prog 62 #[v, .string (strOf s), .func (.func 63) #[] #[]] w (BsP l s w) := by
  obtain ⟨a, cap, rfl⟩ := Raw.slice h
  have H := Lib.hid h; clear h
  have Hs := Lib.hid hs; clear hs
  go_enter Try.func62, Try.ntmps62
  go_wp2
  go_loopw [9, 10] (fun ii jj wr => ∃ i j : Nat, i ≤ j ∧ j ≤ l.length ∧ ii = .int .i64 i ∧ jj = .int .i64 j ∧ Below w.heap.size w wr ∧ (∀ k, k < i → slt (nmAt l k).s s = true) ∧ (∀ k, j ≤ k → k < l.length → slt (nmAt l k).s s = false)) (fun ii jj _ => (intOf jj).toNat - (intOf ii).toNat)
  case atStart => exact ⟨0, l.length, Nat.zero_le _, Nat.le_refl _, rfl, rfl, Below.refl _ _, fun k hk => by omega, fun k hk hk' => by omega⟩
  case round =>
    obtain ⟨i, j, hij, hj, rfl, rfl, hbel, hlo, hhi⟩ := hrel
    have Hlo := Lib.hid hlo; clear hlo
    have Hhi := Lib.hid hhi; clear hhi
    have hsz := hbel.size
    by_cases hlt : i < j
    · obtain ⟨m, hm⟩ : ∃ m : Nat, ((i : Int) + j) / 2 = m := ⟨(i + j) / 2, by omega⟩
      have hmi : i ≤ m := by omega
      have hmj : m < j := by omega
      have hml : m < l.length := by omega
      obtain ⟨b, off, rfl, hb, h0, h1⟩ := (H.out.below hbel).elem hml
      have hm1 : (m : Int) < (l.length : Int) := by omega
      cases hc : slt (nmAt l m).s s
      · have Hlt : Hid (∀ k, m ≤ k → k < l.length → slt (nmAt l k).s s = false) := Lib.hid fun k hk hk2 => by
          by_cases e : k = m
          · rw [e]; exact hc
          · cases h' : slt (nmAt l k).s s
            · rfl
            · have := slt_trans (srt_at Hs.out (show m < k by omega) hk2) h'
              rw [hc] at this; cases this
        have hc1 : 0 ≤ cmpS (nmAt l m).s s := by unfold cmpS; rw [hc]; simp; split <;> omega
        obtain ⟨c, hcc⟩ : ∃ c, cmpS (nmAt l m).s s = c := ⟨_, rfl⟩
        rw [hcc] at hc1
        have Hc := Lib.hid hcc; clear hcc hc
        go_wp2_with fail
        refine (find1_any (nmAt l m) s _ _ Hc.out).mono ?_
        rintro e w1 ⟨rfl, hb1⟩
        have hfin := hbel.trans (hb1.mono hsz)
        go_wp2
        go_roundw
        case rel => exact ⟨i, m, by omega, by omega, rfl, rfl, hfin, Hlo.out, Hlt.out⟩
        case measure => simp [intOf]; omega
      · have Hlt : Hid (∀ k, k ≤ m → slt (nmAt l k).s s = true) := Lib.hid fun k hk => by
          by_cases e : k = m
          · rw [e]; exact hc
          · exact slt_trans (srt_at Hs.out (show k < m by omega) hml) hc
        have Hc := Lib.hid (show cmpS (nmAt l m).s s = -1 by unfold cmpS; rw [hc]; rfl)
        clear hc
        go_wp2_with fail
        refine (find1_any (nmAt l m) s _ _ Hc.out).mono ?_
        rintro e w1 ⟨rfl, hb1⟩
        have hfin := hbel.trans (hb1.mono hsz)
        go_wp2
        go_roundw
        case rel => exact ⟨m + 1, j, by omega, hj, by go_num, rfl, hfin, fun k hk => Hlt.out k (by omega), Hhi.out⟩
        case measure => simp [intOf]; omega
    · obtain rfl : i = j := by omega
      by_cases hin : i < l.length
      · obtain ⟨b, off, rfl, hb, h0, h1⟩ := (H.out.below hbel).elem hin
        have hi1 : (i : Int) < (l.length : Int) := by omega
        obtain ⟨c, hcc⟩ : ∃ c, cmpS (nmAt l i).s s = c := ⟨_, rfl⟩
        have hnl := Hhi.out i (Nat.le_refl _) hin
        have hcz : (c = 0) = ((nmAt l i).s = s) := by
          rw [← hcc]; unfold cmpS
          rw [hnl]
          apply propext
          simp
        have Hcz := Lib.hid hcz
        have Hc := Lib.hid hcc
        clear hcc hcz hnl
        go_wp2_with fail
        refine (find1_any (nmAt l i) s _ _ Hc.out).mono ?_
        rintro e w1 ⟨rfl, hb1⟩
        have hfin := hbel.trans (hb1.mono hsz)
        go_wp2
        go_ret2
        refine ⟨i, hj, Hlo.out, Hhi.out, ?_, hfin⟩
        congr 1
        have hz := Hcz.out
        have : (c == 0) = decide ((nmAt l i).s = s) := by rw [Bool.eq_iff_iff]; simp [← hz]
        simp [hin, this]
      · go_wp2
        go_ret2
        exact ⟨i, hj, Hlo.out, Hhi.out, by simp [hin], hbel⟩
set_option maxRecDepth 100000 in
set_option maxHeartbeats 1000000 in
theorem find_any (v : Value) (l : List Nm) (s : List UInt8) (w : World) (hl : l.length ≤ 1000000) (h : SlN w v l) (hs : Srt l) :
    Calls Try.prog 54 #[v, .string (strOf s)] w (RetF l s w) := by
  obtain ⟨a, cap, rfl⟩ := Raw.slice h
  have H := Lib.hid h; clear h
  have Hs := Lib.hid hs; clear hs
  go_enter Try.func54, Try.ntmps54
  go_wp2_with fail
  refine (bsearch_any _ l s _ hl H.out Hs.out).mono ?_
  rintro e w1 ⟨i, hi, hlo, hhi, rfl, hb1⟩
  have Hlo := Lib.hid hlo; have Hhi := Lib.hid hhi; clear hlo hhi
  by_cases hf : i < l.length ∧ (nmAt l i).s = s
  · have htrue : (decide (i < l.length) && decide ((nmAt l i).s = s)) = true := by simp [hf.1, hf.2]
    rw [htrue]
    have HF := Lib.hid (fnd_at hf.1 Hlo.out hf.2)
    have hil := hf.1
    have Hfs := Lib.hid hf.2
    clear htrue hf
    obtain ⟨b, off, rfl, hb, h0, h1⟩ := (H.out.below hb1).elem hil
    have hi1 : (i : Int) < (l.length : Int) := by omega
    go_wp2
    refine Txt.wp_txt (by kernel_rfl) (by kernel_rfl) ?_
    go_wp2
    refine Txt.DrawPost.mk0 (by rfl) ?_
    go_wp2
    go_ret2
    exact ⟨i, hi, Hlo.out, .inl ⟨hil, Hfs.out⟩, by rw [HF.out]; rfl, hb1.drew⟩
  · have hfalse : (decide (i < l.length) && decide ((nmAt l i).s = s)) = false := by
      rw [Bool.eq_false_iff]; simpa using hf
    rw [hfalse]
    have HB := Lib.hid (beyond Hs.out Hhi.out hf)
    have HF := Lib.hid (fnd_none (not_in Hlo.out HB.out))
    clear hfalse hf
    go_wp2
    go_ret2
    exact ⟨i, hi, Hlo.out, .inr ⟨HB.out, HF.out⟩, by rw [HF.out]; rfl, hb1⟩
end Go.Proofs.Ytfgbkfifiioeiaa
