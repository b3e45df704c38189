/- Images: the program's Diff -/
import Derived.Test.YtnbngidelpodkaaKb
namespace Go.Im
open Go Go.RowKit Go.Bs Go.Cl Go.Rw Go.Un
/-- a row of changes -/
def ChR (F : List Nat) (w : World) (v : Value) (l : List (Nat × List UInt8)) : Prop := ∃ cs : List ((Nat × List UInt8) × Value), cs.map (·.1) = l ∧ Raw F 2 w v cs.length (cs.flatMap encC) ∧ ∀ p ∈ cs, Bytes F w p.2 p.1.2
def difP (a b : List UInt8) {n : Nat} (pre : List (Fin n)) : List (Nat × List UInt8) := (pre.filter fun i => decide (pg a i.val ≠ pg b i.val)).map fun i => (i.val, pg b i.val)
theorem difP_snoc (a b : List UInt8) {n : Nat} (pre : List (Fin n)) (x : Fin n) : difP a b (pre ++ [x]) = if pg a x.val = pg b x.val then difP a b pre else difP a b pre ++ [(x.val, pg b x.val)] := by
  unfold difP
  rw [List.filter_append]
  by_cases h : pg a x.val = pg b x.val <;> simp [h]
theorem difP_fr (a b : List UInt8) (n : Nat) : ∀ k, k ≤ n → difP a b (fr n k) = difK a b k
  | 0, _ => by simp [fr, difP, difK]
  | k + 1, h => by rw [fr_succ (by omega), difP_snoc, difK_succ, difP_fr a b n k (by omega)]
theorem difP_all (a b : List UInt8) : difP a b (List.finRange (cnt b.length)) = dif a b := by rw [← fr_all, difP_fr _ _ _ _ (Nat.le_refl _)]; rfl
theorem difP_len (a b : List UInt8) {n : Nat} (pre : List (Fin n)) : (difP a b pre).length ≤ pre.length := by unfold difP; rw [List.length_map]; exact List.length_filter_le _ _
end Go.Im
namespace Go.Proofs.Ytnbngidelpodkaa
open Go.RowKit Go.Bs Go.Cl Go.Rw Go.Un Go.Im
theorem raw_grown {W W' : World} {F : List Nat} {k n : Nat} {v : Value} {xs : List Value} {row : Option Nat} (h : Raw F k W v n xs) (hk : 0 < k) (hg : W.grownBy W' row) (hr : ∀ r, row = some r → ∃ o : Obj, W.heap[r]? = some o ∧ o.isCells = false) : Raw F k W' v n xs := by
  obtain ⟨h1, h2, a, c, rfl, h3, h4, h5⟩ := h
  refine ⟨h1, h2, a, c, rfl, h3, h4, fun h0 => ?_⟩
  obtain ⟨b, off, rfl, q1, q2, q3⟩ := h5 h0
  have hx : 0 < xs.length := by rw [h1]; exact Nat.mul_pos h0 hk
  obtain ⟨cc, e, f, hc⟩ := Txt.cells_of (q3 0 (xs[0]'hx) (by simp))
  have hne : some b ≠ row := fun e' => by
    obtain ⟨o, ho, hn⟩ := hr b e'.symm
    rw [hc] at ho; cases ho; simp [Obj.isCells] at hn
  exact ⟨b, off, rfl, Nat.lt_of_lt_of_le q1 hg.size, q2, fun j u hj => (World.cell?_of_block (w := W) (hg.block b q1 hne)).trans (q3 j u hj)⟩
theorem heap_grown {W W' : World} {g : Nat} {cs : Array Value} {t : TypeId} {fz : Nat × Nat} {row : Option Nat} (h : W.heap[g]? = some (.cells cs t fz)) (hg : W.grownBy W' row) (hr : ∀ r, row = some r → ∃ o : Obj, W.heap[r]? = some o ∧ o.isCells = false) : W'.heap[g]? = some (.cells cs t fz) :=
  (hg.block g (Array.getElem?_eq_some_iff.1 h).1 fun e => by
    obtain ⟨o, ho, hc⟩ := hr g e.symm
    rw [h] at ho; cases ho; simp [Obj.isCells] at hc).trans h
theorem heap_a4 (w : World) (A B C D : Obj) : ((((w.alloc A).alloc B).alloc C).alloc D).heap[w.heap.size]? = some A ∧ ((((w.alloc A).alloc B).alloc C).alloc D).heap[w.heap.size + 1]? = some B ∧ ((((w.alloc A).alloc B).alloc C).alloc D).heap[w.heap.size + 1 + 1]? = some C ∧ ((((w.alloc A).alloc B).alloc C).alloc D).heap[w.heap.size + 1 + 1 + 1]? = some D := by
  refine ⟨?_, ?_, ?_, ?_⟩
  all_goals
    show ((((w.heap.push A).push B).push C).push D)[_]? = _
    simp only [Array.getElem?_push, Array.size_push]
    repeat (first | rw [if_pos (by omega)] | rw [if_neg (by omega)] | rfl)
/-- between two rounds -/
structure DI (w : World) (av : Value) (a b : List UInt8) (pre : List (Fin (cnt b.length))) (W : World) : Prop where
  row : ∃ (v : Value) (cs : List ((Nat × List UInt8) × Value)), W.heap[w.heap.size + 1 + 1]? = some (.cells #[.int .i64 b.length, v] 68 (0, 0)) ∧ cs.map (·.1) = difP a b pre ∧ W.ownsRow (w.heap.size + 1 + 1 + 1 + 1) 74 2 v cs.length (cs.flatMap encC) ∧ ∀ p ∈ cs, Bytes (v.ownBlock.toList ++ List.range (w.heap.size + 1 + 1 + 1 + 1)) W p.2 p.1.2
  box : W.heap[w.heap.size]? = some (.cells #[av] 22 (0, 0))
  res : W.heap[w.heap.size + 1]? = some (.cells #[.int .i64 0, .slice none 0 0] 68 (0, 0))
  bel : Below w.heap.size w W
  sz : w.heap.size + 1 + 1 + 1 < W.heap.size
theorem DI.own (w : World) (av : Value) (a b : List UInt8) (B : Nat) (hB : w.heap.size ≤ B) : OwnFrom B (DI w av a b) := fun s W W' row h hg hr => by
  obtain ⟨⟨v, cs, h1, h2, h3, h4⟩, h5, h6, h7, h8⟩ := h
  exact ⟨⟨v, cs, heap_grown h1 hg (fun r e => (hr r e).2), h2, ownsRow_grown h3 hg (fun r e => (hr r e).2), fun p hp => raw_grown (h4 p hp) (by omega) hg (fun r e => (hr r e).2)⟩, heap_grown h5 hg (fun r e => (hr r e).2), heap_grown h6 hg (fun r e => (hr r e).2),
    h7.grown hg h7.size (fun k e => Nat.le_trans hB (hr k e).1), Nat.lt_of_lt_of_le h8 hg.size⟩
theorem encC_one {F : List Nat} {w : World} {cs : List ((Nat × List UInt8) × Value)} (h : ∀ p ∈ cs, Bytes F w p.2 p.1.2) : ∀ u ∈ cs.flatMap encC, u.oneCell' = true := by
  intro u hu
  obtain ⟨p, hp, hu⟩ := List.mem_flatMap.1 hu
  obtain ⟨a, c, e⟩ := Raw.slice (h p hp)
  simp only [encC, e, List.mem_cons, List.not_mem_nil, or_false] at hu
  rcases hu with rfl | rfl <;> rfl
theorem keepsOthers_of_keep {G : List Nat} {w w' : World} (hk : Keep G w w') (hG : ∀ g ∈ G, ∀ o, w.heap[g]? = some o → o.isCells = true) : KeepsOthers w w' :=
  ⟨hk.size, fun k o ho hc => (hk.block k (Array.getElem?_eq_some_iff.1 ho).1 fun hm => by rw [hG k hm o ho] at hc; cases hc).trans ho⟩
theorem own_isCells' {w : World} {base e size n : Nat} {v : Value} {xs : List Value} (h : w.ownsRow base e size v n xs) : ∀ g ∈ v.ownBlock.toList, ∀ o, w.heap[g]? = some o → o.isCells = true := fun g hg o ho => by
  obtain ⟨cur, hc⟩ := own_type h (r := g) (by simpa using hg)
  rw [hc] at ho; cases ho; rfl
theorem di_step {w W W3 W4 : World} {av : Value} {a b : List UInt8} {pre : List (Fin (cnt b.length))} {k : Nat} (hk : k < cnt b.length) {v v4 : Value} {cs : List ((Nat × List UInt8) × Value)} {a2 : Option Addr} {c2 : Nat}
    (c7 : Below w.heap.size w W) (c8 : w.heap.size + 1 + 1 + 1 < W.heap.size) (h2 : cs.map (·.1) = difP a b pre) (hD : difP a b (pre ++ [⟨k, hk⟩]) = difP a b pre ++ [(k, pg b k)])
    (h1 : W.heap[w.heap.size + 1 + 1]? = some (.cells #[.int .i64 b.length, v] 68 (0, 0))) (h5 : W.heap[w.heap.size]? = some (.cells #[av] 22 (0, 0))) (h6 : W.heap[w.heap.size + 1]? = some (.cells #[.int .i64 0, .slice none 0 0] 68 (0, 0)))
    (h4 : ∀ p ∈ cs, Bytes (v.ownBlock.toList ++ List.range (w.heap.size + 1 + 1 + 1 + 1)) W p.2 p.1.2) (hW3 : Below W.heap.size W W3) (hcell : ∀ g ∈ v.ownBlock.toList, ∀ o, W3.heap[g]? = some o → o.isCells = true) (hO3 : W3.ownsRow (w.heap.size + 1 + 1 + 1 + 1) 74 2 v cs.length (cs.flatMap encC))
    (hB3 : ∀ X : List Nat, (∀ f ∈ X, f < W.heap.size) → Bytes X W3 (.slice a2 (pg b k).length c2) (pg b k)) (hOW : ∀ r, v.ownBlock = some r → r < W.heap.size) (hown4 : W4.ownsRow (w.heap.size + 1 + 1 + 1 + 1) 74 2 v4 (cs.length + 1) (cs.flatMap encC ++ [.int .i64 k, .slice a2 (pg b k).length c2]))
    (hb4 : Below (w.heap.size + 1 + 1 + 1 + 1) W W4) (hk4 : Keep v.ownBlock.toList W3 W4) (hn4 : ∀ f ∈ v4.ownBlock.toList, f ∈ v.ownBlock.toList ∨ W3.heap.size ≤ f) :
    (∀ B, KeepsFrom B W (W4.setCell ⟨w.heap.size + 1 + 1, 1, none⟩ v4)) ∧ KB w.heap.size (w.heap.size + 1 + 1 + 1) W (W4.setCell ⟨w.heap.size + 1 + 1, 1, none⟩ v4) ∧ DI w av a b (pre ++ [⟨k, hk⟩]) (W4.setCell ⟨w.heap.size + 1 + 1, 1, none⟩ v4) := by
  have hs3 := hW3.size
  have hs4 := hb4.size
  have hsv : ∀ f ∈ v.ownBlock.toList, w.heap.size + 1 + 1 + 1 + 1 ≤ f ∧ f < W.heap.size := fun f hf => by
    have hf' : v.ownBlock = some f := by simpa using hf
    exact ⟨(hO3.lt f hf').1, hOW f hf'⟩
  have blk : ∀ j, j < w.heap.size + 1 + 1 + 1 + 1 → W4.heap[j]? = W.heap[j]? := fun j hj => hb4.block j hj
  have hP4 : W4.heap[w.heap.size + 1 + 1]? = some (.cells #[.int .i64 b.length, v] 68 (0, 0)) := (blk _ (by omega)).trans h1
  have hset : (W4.setCell ⟨w.heap.size + 1 + 1, 1, none⟩ v4).heap[w.heap.size + 1 + 1]? = some (.cells #[.int .i64 b.length, v4] 68 (0, 0)) := heap_setCell_same W4 (w.heap.size + 1 + 1) 1 _ 68 v4 hP4
  have hko : Keep [w.heap.size + 1 + 1] W4 (W4.setCell ⟨w.heap.size + 1 + 1, 1, none⟩ v4) := (Keep.refl [w.heap.size + 1 + 1] W4).setCell (by simp) _
  have hbW : Below w.heap.size W (W4.setCell ⟨w.heap.size + 1 + 1, 1, none⟩ v4) := (hb4.mono (by omega)).setCell (by show w.heap.size ≤ w.heap.size + 1 + 1; omega) _
  refine ⟨fun B => ?_, ⟨hbW, ?_⟩, ⟨⟨v4, cs ++ [((k, pg b k), .slice a2 (pg b k).length c2)], hset, by rw [hD]; simp [h2], ?_, fun p hp => ?_⟩, ?_, ?_, c7.trans hbW, ?_⟩⟩
  · refine KeepsOthers.from (KeepsOthers.trans ⟨hW3.size, fun j o hj _ => (hW3.block j (Array.getElem?_eq_some_iff.1 hj).1).trans hj⟩ (KeepsOthers.trans (keepsOthers_of_keep hk4 hcell) (keepsOthers_of_keep hko (fun g hg o ho => ?_)))) B
    rw [List.mem_singleton.1 hg, hP4] at ho; cases ho; rfl
  · exact (hko.cell (by omega) (by simp)).trans (hb4.cell (p := ⟨w.heap.size + 1 + 1 + 1, 0, none⟩) (by show w.heap.size + 1 + 1 + 1 < _; omega))
  · have hw := own_keep hown4 hko (fun r hr hm => by
      rw [List.mem_singleton] at hm; have := (hown4.lt r hr).1; omega)
    simpa [encC] using hw
  · have base : Bytes (v.ownBlock.toList ++ List.range (w.heap.size + 1 + 1 + 1 + 1)) W3 p.2 p.1.2 := by
      rcases List.mem_append.1 hp with hp | hp
      · exact Raw.below (h4 p hp) hW3
      · rw [List.mem_singleton.1 hp]
        exact hB3 _ fun f hf => by
          rcases List.mem_append.1 hf with hf | hf
          · exact (hsv f hf).2
          · have := List.mem_range.1 hf; omega
    have h4' : Bytes (v4.ownBlock.toList ++ List.range (w.heap.size + 1 + 1 + 1 + 1)) W4 p.2 p.1.2 := base.keep hk4 (fun f hf => .inl (List.mem_append_left _ hf)) (fun f hf => by
      rcases List.mem_append.1 hf with hf | hf
      · exact (hn4 f hf).imp (fun h => List.mem_append_left _ h) id
      · exact .inl (List.mem_append_right _ hf))
    exact Raw.keep h4' hko (fun f hf => .inl (by rw [List.mem_singleton.1 hf]; exact List.mem_append_right _ (List.mem_range.2 (by omega)))) (fun f hf => .inl hf)
  · exact (hko.block _ (by omega) (by first | (simp; done) | (simp; omega))).trans ((blk _ (by omega)).trans h5)
  · exact (hko.block _ (by omega) (by first | (simp; done) | (simp; omega))).trans ((blk _ (by omega)).trans h6)
  · simp [World.setCell]; omega

attribute [local go_sem] Oper.semAt_some
def DifR (w : World) (l : List (Nat × List UInt8)) (n : Nat) (e : Ending) (w' : World) : Prop := ∃ v, e = .returned (.tuple #[.agg #[.int .i64 n, v], .int .i64 0]) ∧ ChR (old w) w' v l ∧ Below w.heap.size w w'
set_option maxRecDepth 100000 in
set_option maxHeartbeats 4000000 in
theorem diff_any {F : List Nat} (av bv : Value) (a b : List UInt8) (w : World) (ha : a.length ≤ 24000) (hb : b.length ≤ 24000) (hA : Bytes F w av a) (hB : Bytes F w bv b) :
    Calls Try.prog 33 #[av, bv] w (DifR w (dif a b) b.length) := by
  refine (callsIn_wide (n := 9)).1 ?_
  obtain ⟨aa, ac, rfl⟩ := Raw.slice hA
  obtain ⟨ba, bc, rfl⟩ := Raw.slice hB
  have HA := Lib.hid hA; clear hA
  have HB := Lib.hid hB; clear hB
  have hbl : (b.length : Int) ≤ 24000 := by omega
  have hdec : decide ((24000 : Int) < b.length) = false := by simp; omega
  refine callsIn_of_wp_marks Try.func33 rfl trivial ?_ rfl
  simp only [Try.ntmps33, List.size_toArray, List.length_cons, List.length_nil, Nat.reduceAdd, Nat.reduceSub, Array.replicate_succ, Array.replicate_zero, List.push_toArray, List.append_toArray, List.nil_append, List.cons_append]
  gi_wp2_with fail
  refine ⟨trivial, ?_⟩
  refine (callsIn_wide.2 (pages_any _ _ _ _)).mono ?_
  rintro e w' ⟨rfl, rfl⟩
  gi_wp2
  have hcl : cnt b.length ≤ 1000 := by unfold cnt; omega
  have hB0 : Below w.heap.size w ((((w.alloc (.cells #[.slice aa a.length ac] 22)).alloc (.cells #[.int .i64 0, .slice none 0 0] 68)).alloc (.cells #[.int .i64 b.length, .slice none 0 0] 68)).alloc (.cells #[.slice ba b.length bc] 22)) := ((((Below.refl _ w).alloc (Nat.le_refl _) _).alloc (by simp only [World.size_alloc]; omega) _).alloc (by simp only [World.size_alloc]; omega) _).alloc (by simp only [World.size_alloc]; omega) _
  obtain ⟨g0, g1, g2, g3'⟩ := heap_a4 w (.cells #[.slice aa a.length ac] 22) (.cells #[.int .i64 0, .slice none 0 0] 68) (.cells #[.int .i64 b.length, .slice none 0 0] 68) (.cells #[.slice ba b.length bc] 22)
  have g3 : ((((w.alloc (.cells #[.slice aa a.length ac] 22)).alloc (.cells #[.int .i64 0, .slice none 0 0] 68)).alloc (.cells #[.int .i64 b.length, .slice none 0 0] 68)).alloc (.cells #[.slice ba b.length bc] 22)).cell? ⟨w.heap.size + 1 + 1 + 1, 0, none⟩ = some (.slice ba b.length bc) := box_at g3' rfl
  have g4 : ((((w.alloc (.cells #[.slice aa a.length ac] 22)).alloc (.cells #[.int .i64 0, .slice none 0 0] 68)).alloc (.cells #[.int .i64 b.length, .slice none 0 0] 68)).alloc (.cells #[.slice ba b.length bc] 22)).heap.size = w.heap.size + 1 + 1 + 1 + 1 := by simp
  obtain ⟨w4, hw4⟩ : ∃ w4, w4 = ((((w.alloc (.cells #[.slice aa a.length ac] 22)).alloc (.cells #[.int .i64 0, .slice none 0 0] 68)).alloc (.cells #[.int .i64 b.length, .slice none 0 0] 68)).alloc (.cells #[.slice ba b.length bc] 22)) := ⟨_, rfl⟩
  rw [← hw4] at hB0 g0 g1 g2 g3 g4 ⊢
  clear hw4 g3'
  have hbz : b.length ≤ 1000000 := by omega
  have H0 : Hid (DI w (.slice aa a.length ac) a b [] w4) := Lib.hid ⟨⟨.slice none 0 0, [], g2, by simp [difP], World.ownsRow_nil _ _ _ _, fun p hp => by cases hp⟩, g0, g1, hB0, by omega⟩
  have hst : SeqStopsK Fence.wide 8 Try.prog 59 #[.pointer (some ⟨w.heap.size + 1 + 1 + 1, 0, none⟩)] (fun x : Fin (cnt b.length) => #[Value.int .i64 ((x.val : Nat) : Int), Value.slice (pgA ba x.val (sz b.length x.val)) (sz b.length x.val) (sz b.length x.val)]) (KB w.heap.size (w.heap.size + 1 + 1 + 1)) (fun ys => ys = List.finRange (cnt b.length)) (fun _ => True) (cnt b.length) w4 := fun l J Jx W hW _ _ hY h0 =>
    pages1_in 8 (by decide) l (w.heap.size + 1 + 1 + 1) w.heap.size bc ba b hbz w HB.out J Jx hY W ((hW.cell (p := ⟨w.heap.size + 1 + 1 + 1, 0, none⟩) (by show w.heap.size + 1 + 1 + 1 < _; omega)).trans g3) h0
  refine wpIn_rangeFunc_ownH (n := 9) rfl (by decide) (gf := 59) (lb := #[.pointer (some ⟨w.heap.size + 1 + 1 + 1, 0, none⟩)]) rfl trivial (enters_of Try.func59 (by kernel_rfl) rfl)
    hst (fun h k => KB.trans h k) (fun W l o o' hl' h h1 h2 => KB.put (n₀ := w.heap.size) (Bs := w.heap.size + 1 + 1 + 1) (w := w4) (by omega) (by omega) W l o o' hl' h h1 h2) (Below.refl _ _) ?hps
    (DI w (.slice aa a.length ac) a b) (fun _ _ _ => False) (DI.own w _ a b _ (by omega)) (fun _ _ _ _ _ hs _ _ => hs)
    H0.out
    (fun x a' W => a' = { tmps := #[.slice aa a.length ac, .slice ba b.length bc, .pointer (some ⟨w.heap.size, 0, none⟩), undef, .pointer (some ⟨w.heap.size + 1, 0, none⟩), .int .i64 0, .pointer (some ⟨w.heap.size + 1 + 1, 0, none⟩), .int .i64 ((x.val : Nat) : Int), .slice (pgA ba x.val (sz b.length x.val)) (sz b.length x.val) (sz b.length x.val), .slice ba b.length bc, .int .i64 b.length, .bool false, undef, .slice ba b.length bc, .int .i64 b.length, .agg #[.int .i64 b.length, .slice none 0 0], .slice ba b.length bc, .func (.func 59) #[] #[.pointer (some ⟨w.heap.size + 1 + 1 + 1, 0, none⟩)], .int .i64 ((x.val : Nat) : Int), .slice (pgA ba x.val (sz b.length x.val)) (sz b.length x.val) (sz b.length x.val), undef, undef, undef, undef, undef, undef, undef, undef, undef, undef, undef, undef, undef, undef, undef, undef], defers := [] })
    ?hAx ?assign ?body ?done ?stop
  case hps => intro x; rfl
  case hAx =>
    intro x a' _ W W' row h hg hr
    exact h
  case assign =>
    intro l pre x W K hI hK
    have HK := Lib.hid hK; clear hK
    have HI := Lib.hid hI; clear hI
    clear hst H0 g0 g1 g2 g3
    gi_wp2
    exact HK.out _ _ ((KeepsOthers.refl _).from _) (KB.refl _ _ _) HI.out rfl
  case body =>
    rintro l pre x a' W hl' hL hI rfl hlen
    obtain ⟨⟨v, cs, c1, c2, c3, c4⟩, c5, c6, c7, c8⟩ := hI
    obtain ⟨k, hk⟩ := x
    have hsn := difP_snoc a b pre ⟨k, hk⟩
    have hcsl : cs.length ≤ 1000 := by
      have := congrArg List.length c2
      rw [List.length_map] at this
      have := difP_len a b pre
      omega
    have d0 := box_at c5 (j := 0) rfl
    have HAW := Lib.hid (Raw.below HA.out c7)
    have hpgW := (pg_slice (HB.out.below c7) hk).1
    have HPW := Lib.hid hpgW
    simp only at hsn ⊢
    obtain ⟨va, vc, rfl⟩ := own_slice c3
    have C1 := Lib.hid c1; have C2 := Lib.hid c2; have C3 := Lib.hid c3; have C4 := Lib.hid c4; have C5 := Lib.hid c5; have C6 := Lib.hid c6
    have Hsn := Lib.hid hsn
    have hkl : k ≤ 1000000 := by omega
    clear c1 c2 c3 c4 c5 c6 hsn hpgW hst H0 g0 g1 g2 g3 hlen
    gi_wp2_with fail
    refine ⟨trivial, ?_⟩
    refine (CallsIn.inRound l (callsIn_wide.2 (page_any _ a k _ (by omega) hkl HAW.out))).mono ?_
    rintro e W1 ⟨v1, rfl, hp1, hb1⟩
    obtain ⟨a1, c1, rfl⟩ := Raw.slice hp1
    have hs1 := hb1.size
    have HP1 := Lib.hid hp1
    have HPW1 := Lib.hid (Raw.below HPW.out hb1)
    have heq := fun r hr w => equal_any (F := old W) (G := F) (.slice a1 (pg a k).length c1) (.slice (pgA ba k (sz b.length k)) (sz b.length k) (sz b.length k)) (pg a k) (pg b k) r w hr
    clear hp1
    have hlt8 := c8
    by_cases hq : pg a k = pg b k
    · have he := heq true (by simp [hq]) W1 HP1.out HPW1.out
      have hD : difP a b (pre ++ [⟨k, hk⟩]) = difP a b pre := by rw [Hsn.out, if_pos hq]
      have HE := Lib.hid he; have HD := Lib.hid hD
      clear he hD heq hq
      gi_wp2_with fail
      refine ⟨trivial, ?_⟩
      refine (CallsIn.inRound l (callsIn_wide.2 HE.out)).mono ?_
      rintro e W' ⟨rfl, rfl⟩
      gi_wp2
      refine ⟨keeps_below hb1 rfl, KB.of_below hb1 c7.size c8, ⟨⟨_, cs, (hb1.block _ (by omega)).trans C1.out, by rw [HD.out]; exact C2.out, own_below C3.out hb1 (Nat.le_refl _), fun p hp => Raw.below (C4.out p hp) hb1⟩, (hb1.block _ (by omega)).trans C5.out, (hb1.block _ (by omega)).trans C6.out, c7.trans (hb1.mono c7.size), by omega⟩⟩
    · have he := heq false (by simp [hq]) W1 HP1.out HPW1.out
      have hD : difP a b (pre ++ [⟨k, hk⟩]) = difP a b pre ++ [(k, pg b k)] := by rw [Hsn.out, if_neg hq]
      have HE := Lib.hid he; have HD := Lib.hid hD
      clear he hD heq hq
      gi_wp2_with fail
      refine ⟨trivial, ?_⟩
      refine (CallsIn.inRound l (callsIn_wide.2 HE.out)).mono ?_
      rintro e W' ⟨rfl, rfl⟩
      gi_wp2
      have hBl : ∀ q ∈ [w.heap.size + 1 + 1], ∃ c e f, W1.heap[q]? = some (.cells c e f) := fun q hq => by rw [List.mem_singleton.1 hq]; exact ⟨_, _, _, (hb1.block _ (by omega)).trans C1.out⟩
      have HS1 := Lib.hid (same_start hBl)
      have cP := box_at ((hb1.block (w.heap.size + 1 + 1) (by omega)).trans C1.out) (j := 1) rfl
      refine Txt.Ty.region_round_tree [w.heap.size + 1 + 1] [1] [9] [1] [0, 1, 2, 3] (.alt [4, 5] (.alt [6] (.alt [7, 8] (.alt [9] (.done) (.no)) (.no)) (.no)) (.no)) (fun ⟨_, _, h⟩ => h) rfl (by kernel_rfl) (by kernel_rfl) (by kernel_rfl) (by kernel_rfl) hBl ?_
      clear hBl
      (try simp only [Txt.pick, List.getElem?_cons_succ, List.getElem?_cons_zero])
      go_wp2
      refine Txt.RunPost.mk ?_
      refine Txt.Ty.wpTr_alt ?_ Txt.Ty.wpTr_no
      (try simp only [Txt.pick, List.getElem?_cons_succ, List.getElem?_cons_zero])
      go_wp2_with fail
      refine (clone33 _ ?hcl HPW1.out.drew).mono ?_
      case hcl => have := pg_len b k; unfold sz at this; omega
      rintro e W2 ⟨v2, rfl, hown2, hb2⟩
      have hb12 : Below W1.heap.size W1 W2 := (Below.refl W1.heap.size W1).drew.trans hb2
      have hs2 := hb12.size
      have HO2 := Lib.hid hown2
      have HS2 := Lib.hid (same_below' HS1.out hb2)
      rw [← pg_len b k]
      obtain ⟨a2, c2, rfl⟩ := own_slice hown2
      have c3w := own_below (own_below C3.out hb1 (Nat.le_refl _)) hb12 (Nat.le_refl _)
      have hB2 : ∀ X : List Nat, (∀ f ∈ X, f < W1.heap.size) → Bytes X W2 (.slice a2 (pg b k).length c2) (pg b k) := fun X hX => Bytes.row HO2.out rfl hX
      have al := (Below.refl W2.heap.size W2).alloc (Nat.le_refl _) (.cells #[.int .i64 k, .slice a2 (pg b k).length c2] 74)
      obtain ⟨q, hq⟩ : ∃ q, q = W2.heap.size := ⟨_, rfl⟩
      have hx0 : Raw [] 2 (W2.alloc (.cells #[.int .i64 k, .slice a2 (pg b k).length c2] 74)) (.slice (some ⟨q, 0, none⟩) 1 1) 1 [.int .i64 k, .slice a2 (pg b k).length c2] := Raw.of_block (ys := [.int .i64 k, .slice a2 (pg b k).length c2]) (by rw [hq]; exact heap_alloc_new W2 _) (by simp) (by intro z hz; simp at hz; rcases hz with rfl | rfl <;> rfl) rfl (Nat.le_refl _) (by unfold maxLen; omega)
      have HX := Lib.hid hx0
      have hb13 := hb12.trans (al.mono hs2)
      have hW3 := hb1.trans (hb13.mono hs1)
      have HS3 := Lib.hid (same_below' HS2.out al)
      have HO3 := Lib.hid (own_below c3w al (Nat.le_refl _))
      have HB3 : Hid (∀ X : List Nat, (∀ f ∈ X, f < W1.heap.size) → Bytes X (W2.alloc (.cells #[.int .i64 k, .slice a2 (pg b k).length c2] 74)) (.slice a2 (pg b k).length c2) (pg b k)) := Lib.hid fun X hX => Raw.below (hB2 X hX) al
      have hz3 : w.heap.size + 1 + 1 + 1 + 1 ≤ (W2.alloc (.cells #[.int .i64 k, .slice a2 (pg b k).length c2] 74)).heap.size := by simp; omega
      have hz3' : W.heap.size ≤ (W2.alloc (.cells #[.int .i64 k, .slice a2 (pg b k).length c2] 74)).heap.size := hW3.size
      go_wp2
      refine Txt.SegPost.mk (Txt.Ty.Shown.same HS2.out) ?_
      (try simp only [Txt.pick, List.getElem?_cons_succ, List.getElem?_cons_zero])
      go_wp2
      refine Txt.RunPost.mk ?_
      refine Txt.Ty.wpTr_alt ?_ Txt.Ty.wpTr_no
      (try simp only [Txt.pick, List.getElem?_cons_succ, List.getElem?_cons_zero])
      go_wp2
      rw [← hq]
      obtain ⟨W3, hW3e⟩ : ∃ W3, W3 = W2.alloc (.cells #[.int .i64 k, .slice a2 (pg b k).length c2] 74) := ⟨_, rfl⟩
      rw [← hW3e] at HX HO3 HB3 HS3 hW3 hb13 hz3 hz3' ⊢
      clear hq al hx0 hW3e c3w hB2 cP hown2 hb2
      refine Txt.SegPost.mk (Txt.Ty.Shown.same HS3.out) ?_
      refine Txt.RunPost.mk ?_
      refine Txt.Ty.wpTr_alt ?_ Txt.Ty.wpTr_no
      (try simp only [Txt.pick, List.getElem?_cons_succ, List.getElem?_cons_zero])
      go_wp2_with (at_builtin; refine wpList_appF el64 Try.underlying64 HO3.out HX.out (hW3.mono (show w.heap.size + 1 + 1 + 1 + 1 ≤ W.heap.size by omega)) rfl _ _ rfl rfl rfl ?a3 (Nat.le_refl _) hz3 ?_)
      case a3 => omega
      intro v4 W4 hown4 hb4 hk4 hn4
      have hsv : ∀ f ∈ (Value.slice va cs.length vc).ownBlock.toList, w.heap.size + 1 + 1 + 1 + 1 ≤ f ∧ f < W3.heap.size := fun f hf => by
        have := HO3.out.lt f (by simpa using hf); exact this
      have hP4 := (hk4.block (w.heap.size + 1 + 1) (by omega) (fun hm => by have := (hsv _ hm).1; omega)).trans ((hW3.block (w.heap.size + 1 + 1) (by omega)).trans C1.out)
      have cP := box_at hP4 (j := 1) rfl
      have fP := box_free hP4 1
      have HP4 := Lib.hid hP4
      have HS4 := Lib.hid (same_keep HS3.out hk4 (fun q hq hm => by rw [List.mem_singleton.1 hq] at hm; have := (hsv _ hm).1; omega))
      have hres := di_step (cs := cs) (a2 := a2) (c2 := c2) hk c7 c8 C2.out HD.out C1.out C5.out C6.out C4.out hW3 (own_isCells' HO3.out) HO3.out (fun X hX => HB3.out X (fun f hf => Nat.lt_of_lt_of_le (hX f hf) hs1)) (fun r hr => (C3.out.lt r hr).2) hown4 hb4 hk4 (fun f hf => by have := hn4 f (by simpa using hf); simpa using this)
      have HR := Lib.hid hres
      obtain ⟨a4, c4, rfl⟩ := own_slice hown4
      clear hown4 hb4 hk4 hn4 hP4 hres
      go_wp2
      refine Txt.SegPost.mk (Txt.Ty.Shown.same HS4.out) ?_
      (try simp only [Txt.pick, List.getElem?_cons_succ, List.getElem?_cons_zero])
      go_wp2
      refine Txt.RunPost.mk ?_
      refine Txt.Ty.wpTr_alt ?_ Txt.Ty.wpTr_no
      (try simp only [Txt.pick, List.getElem?_cons_succ, List.getElem?_cons_zero])
      go_wp2
      refine Txt.SegPost.mk (Txt.Ty.Shown.last rfl) ?_
      refine Txt.RunPost.mk ?_
      refine Txt.Ty.wpTr_done (by rfl) ⟨.head _, trivial⟩ ?_
      exact ⟨HR.out.1 _, HR.out.2.1, HR.out.2.2⟩
  case done =>
    rintro D ys W hD rfl hI hK
    obtain ⟨⟨v, cs, c1, c2, c3, c4⟩, c5, c6, c7, c8⟩ := hI
    rw [difP_all] at c2
    obtain ⟨va, vc, rfl⟩ := own_slice c3
    have p0 := box_at c1 (j := 0) rfl
    have p1 := box_at c1 (j := 1) rfl
    have r0 := box_at c6 (j := 0) rfl
    have r1 := box_at c6 (j := 1) rfl
    have f0 := box_free c6 0
    have f1 := box_free c6 1
    have hK' : ((W.setCell ⟨w.heap.size + 1, 0, none⟩ (.int .i64 b.length)).setCell ⟨w.heap.size + 1, 1, none⟩ (.slice va cs.length vc)).heap[D]? = some (Obj.deferred (some [])) := by
      rw [Below.heap_setCell _ _ _ _ (show D ≠ w.heap.size + 1 by omega), Below.heap_setCell _ _ _ _ (show D ≠ w.heap.size + 1 by omega)]; exact hK
    have C1 := Lib.hid c1; have C2 := Lib.hid c2; have C3 := Lib.hid c3; have C4 := Lib.hid c4; have C6 := Lib.hid c6
    have HK' := Lib.hid hK'
    clear c1 c2 c3 c4 c5 c6 hst H0 g0 g1 g2 g3 hK'
    have hkS : Keep [w.heap.size + 1] W ((W.setCell ⟨w.heap.size + 1, 0, none⟩ (.int .i64 b.length)).setCell ⟨w.heap.size + 1, 1, none⟩ (.slice va cs.length vc)) := ((Keep.refl [w.heap.size + 1] W).setCell (by simp) _).setCell (by simp) _
    have hrow := Raw.of_own (F := (w.heap.size + 1) :: old w) C3.out (encC_one C4.out) (fun f hf => by
      rcases List.mem_cons.1 hf with rfl | hf
      · omega
      · have := old_lt f hf; omega)
    have hin : ∀ f ∈ [w.heap.size + 1], f ∈ (w.heap.size + 1) :: old w ∨ W.heap.size ≤ f := fun f hf => .inl (by rw [List.mem_singleton.1 hf]; simp)
    have hrow2 := Raw.keep (F' := old w) hrow hkS hin (fun f hf => .inl (List.mem_cons_of_mem _ hf))
    have hbyt : ∀ p ∈ cs, Bytes (old w) ((W.setCell ⟨w.heap.size + 1, 0, none⟩ (.int .i64 b.length)).setCell ⟨w.heap.size + 1, 1, none⟩ (.slice va cs.length vc)) p.2 p.1.2 := fun p hp =>
      Raw.keep (C4.out p hp) hkS (fun f hf => .inl (by rw [List.mem_singleton.1 hf]; exact List.mem_append_right _ (List.mem_range.2 (by omega)))) (fun f hf => .inl (List.mem_append_right _ (List.mem_range.2 (by have := old_lt f hf; omega))))
    have hres : ((W.setCell ⟨w.heap.size + 1, 0, none⟩ (.int .i64 b.length)).setCell ⟨w.heap.size + 1, 1, none⟩ (.slice va cs.length vc)).heap[w.heap.size + 1]? = some (.cells #[.int .i64 b.length, .slice va cs.length vc] 68 (0, 0)) := by
      have h1 := heap_setCell_same W (w.heap.size + 1) 0 _ 68 (.int .i64 b.length) C6.out
      have h2 := heap_setCell_same _ (w.heap.size + 1) 1 _ 68 (.slice va cs.length vc) h1
      exact h2
    have hbS := c7.trans (hkS.below (B := w.heap.size) c7.size (fun f hf => by rw [List.mem_singleton.1 hf]; omega))
    have HR := Lib.hid hrow2; have HBy := Lib.hid hbyt; have HRs := Lib.hid hres; have HbS := Lib.hid hbS
    clear hkS hrow hin hrow2 hbyt hres hbS
    gi_wp2
    obtain ⟨WS, hWS⟩ : ∃ WS, WS = ((W.setCell ⟨w.heap.size + 1, 0, none⟩ (.int .i64 b.length)).setCell ⟨w.heap.size + 1, 1, none⟩ (.slice va cs.length vc)) := ⟨_, rfl⟩
    rw [← hWS] at HR HBy HRs HbS HK' ⊢
    clear hWS
    refine ⟨by simp, .inl ⟨_, _, rfl, run_takeDeferred HK'.out, ?_⟩⟩
    have hgp := grownBy_putObj' WS D (.deferred none)
    have hrw : ∀ r, some D = some r → ∃ o : Obj, WS.heap[r]? = some o ∧ o.isCells = false := fun r e => by cases e; exact ⟨_, HK'.out, rfl⟩
    refine ⟨_, results_ct rfl _ _ _ _ _ _ _ rfl (heap_grown HRs.out hgp hrw) Try.underlying68 rfl (by kernel_rfl), _, rfl, ⟨cs, C2.out, raw_grown HR.out (by omega) hgp hrw, fun p hp => raw_grown (HBy.out p hp) (by omega) hgp hrw⟩, HbS.out.trans (belowK_b (w := w) (Nat.le_refl _) WS D _ _ (by omega) HK'.out rfl rfl)⟩
  case stop =>
    rintro D c pre W _ _ h _
    exact h.elim
end Go.Proofs.Ytnbngidelpodkaa
