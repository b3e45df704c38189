/- A tree of orders, checked with numbers for sets of operations: quick for the kernel where there are many orders. No program in sight. -/
import Derived.Test.YtfepaminfjamfaaM1
namespace Go.Txt.Tz
open Go Go.Txt Go.Txt.Ty
def maskFrom (m : Nat) : List Nat → Nat
  | [] => m
  | i :: l => maskFrom (m ||| (1 <<< i)) l
theorem testBit_maskFrom (j : Nat) : ∀ (l : List Nat) (m : Nat), (maskFrom m l).testBit j = (m.testBit j || l.contains j)
  | [], m => by simp [maskFrom]
  | i :: l, m => by
    unfold maskFrom
    rw [testBit_maskFrom j l, Nat.testBit_or, Nat.one_shiftLeft, Nat.testBit_two_pow, List.contains_cons]
    by_cases h : i = j
    · subst h; simp
    · have h' : (j == i) = false := by simp; exact fun e => h e.symm
      rw [h']; simp [h]
theorem sub_mask (L : Nat) (l : List Nat) : ((L &&& maskFrom 0 l) == maskFrom 0 l) = l.all (L.testBit ·) := by
  rw [Bool.eq_iff_iff, beq_iff_eq, List.all_eq_true]
  constructor
  · intro h x hx
    have : (L &&& maskFrom 0 l).testBit x = true := by
      rw [h, testBit_maskFrom]; simp [hx]
    rw [Nat.testBit_and, Bool.and_eq_true] at this
    exact this.1
  · intro h
    apply Nat.eq_of_testBit_eq
    intro i
    rw [Nat.testBit_and, testBit_maskFrom]
    by_cases hi : i ∈ l
    · simp [hi, h i hi]
    · simp [hi]
def edges (o : Oper) : List Nat := (o.after.toList.filter (Region.binds .any)).map (·.on)
def depsOf (l : List Oper) : List Nat := l.map fun o => maskFrom 0 (edges o)
/-- what is ready: the places, counted from i -/
def readyN (L : Nat) : Nat → List Nat → List Nat
  | _, [] => []
  | i, d :: ds => if !L.testBit i && ((L &&& d) == d) then i :: readyN L (i + 1) ds else readyN L (i + 1) ds
theorem readyN_eq (L : Nat) : ∀ (ds : List Nat) (i : Nat), readyN L i ds = ((List.range' i ds.length).zip ds).filterMap fun p => if !L.testBit p.1 && ((L &&& p.2) == p.2) then some p.1 else none
  | [], i => rfl
  | d :: ds, i => by
    unfold readyN
    rw [readyN_eq L ds (i + 1)]
    simp only [List.length_cons, List.range'_succ, List.zip_cons_cons, List.filterMap_cons]
    split <;> rename_i h <;> simp [h]
/-- the marks and the number say the same -/
def Rel (n : Nat) (A : Array Bool) (L : Nat) : Prop := A.size = n ∧ ∀ i, i < n → A[i]? = some (L.testBit i)
theorem Rel.set {n : Nat} {A : Array Bool} {L i : Nat} (h : Rel n A L) : Rel n (A.setIfInBounds i true) (L ||| (1 <<< i)) := by
  refine ⟨by simp [h.1], fun j hj => ?_⟩
  rw [Array.getElem?_setIfInBounds, Nat.testBit_or, Nat.one_shiftLeft, Nat.testBit_two_pow]
  by_cases e : i = j
  · subst e; rw [if_pos rfl, if_pos (by rw [h.1]; exact hj)]; simp
  · rw [if_neg e, h.2 j hj]; simp [e]
theorem Rel.mark {n : Nat} : ∀ (s : List Nat) {A : Array Bool} {L : Nat}, Rel n A L → Rel n (mark A s) (maskFrom L s)
  | [], A, L, h => h
  | i :: s, A, L, h => by
    have := Rel.mark s (h.set (i := i))
    simpa [Txt.mark, maskFrom] using this
theorem Rel.start (n : Nat) : Rel n (Array.replicate n false) 0 := ⟨by simp, fun i hi => by simp [hi]⟩
theorem filterMap_range (p : Nat → Nat → Bool) : ∀ (l : List Oper) (i : Nat) (q : Nat → Bool) (g : Oper → Nat), (∀ j (hj : j < l.length), q (i + j) = p (i + j) (g l[j])) →
    (List.range' i l.length).filter q = ((List.range' i (l.map g).length).zip (l.map g)).filterMap fun x => if p x.1 x.2 then some x.1 else none
  | [], i, q, g, h => by simp
  | o :: l, i, q, g, h => by
    have h0 := h 0 (by simp)
    simp only [Nat.add_zero, List.getElem_cons_zero] at h0
    have ih := filterMap_range p l (i + 1) q g (fun j hj => by
      have := h (j + 1) (by simp; omega)
      simp only [List.getElem_cons_succ] at this
      rw [show i + 1 + j = i + (j + 1) by omega]
      exact this)
    simp only [List.length_cons, List.map_cons, List.range'_succ, List.zip_cons_cons, List.filterMap_cons, List.filter_cons, h0]
    rw [ih]
    split <;> rename_i hp <;> simp [hp]
theorem ready_eq {l : List Oper} {A : Array Bool} {L : Nat} (h : Rel l.length A L) (he : (l.all fun o => (edges o).all (· < l.length)) = true) : Region.ready .any l.toArray A = readyN L 0 (depsOf l) := by
  rw [readyN_eq, Region.ready, List.range_eq_range']
  have hs : l.toArray.size = l.length := by simp
  rw [hs]
  refine filterMap_range (fun i d => !L.testBit i && ((L &&& d) == d)) l 0 _ (fun o => maskFrom 0 (edges o)) (fun j hj => ?_)
  have hA : A.getD j true = L.testBit j := by
    rw [Array.getD_eq_getD_getElem?, h.2 j hj]; rfl
  simp only [Nat.zero_add, hA, sub_mask]
  congr 1
  rw [show l.toArray[j]? = some l[j] by simp [hj]]
  simp only [Option.map_some, Option.getD_some]
  have hj' := List.all_eq_true.1 he _ (List.getElem_mem hj)
  rw [Bool.eq_iff_iff]
  simp only [Array.all_eq_true', List.all_eq_true, edges, List.mem_map, List.mem_filter, Bool.or_eq_true, Bool.not_eq_true', Array.mem_toList_iff]
  constructor
  · rintro hh x ⟨e, ⟨hm, hb⟩, rfl⟩
    rcases hh e hm with hn | hl
    · rw [hb] at hn; cases hn
    · have hlt : e.on < l.length := by
        have := List.all_eq_true.1 hj' e.on (by simp only [edges, List.mem_map, List.mem_filter, Array.mem_toList_iff]; exact ⟨e, ⟨hm, hb⟩, rfl⟩)
        simpa using this
      rw [Array.getD_eq_getD_getElem?, h.2 _ hlt] at hl
      exact hl
  · intro hh e hm
    cases hb : Region.binds .any e
    · exact .inl rfl
    · right
      have hlt : e.on < l.length := by
        have := List.all_eq_true.1 hj' e.on (by simp only [edges, List.mem_map, List.mem_filter, Array.mem_toList_iff]; exact ⟨e, ⟨hm, hb⟩, rfl⟩)
        simpa using this
      rw [Array.getD_eq_getD_getElem?, h.2 _ hlt]
      exact hh e.on ⟨e, ⟨hm, hb⟩, rfl⟩
def runN (ds : List Nat) (lm : Nat) : Nat → List Nat → Bool
  | _, [] => true
  | L, i :: s => (readyN L 0 ds).find? (fun i => lm.testBit i) == some i && runN ds lm (L ||| (1 <<< i)) s
def calmN (ds : List Nat) (lm L : Nat) : Bool := (readyN L 0 ds).find? (fun i => lm.testBit i) == none
def altsN (ds : List Nat) (lm : Nat) : Tr → Nat → Bool
  | .no, _ => true
  | .done, _ => false
  | .alt s t o, L => (match s with
    | [] => false
    | i :: s => runN ds lm (L ||| (1 <<< i)) s && calmN ds lm (maskFrom (L ||| (1 <<< i)) s) && (match t with
      | .done => readyN (maskFrom (L ||| (1 <<< i)) s) 0 ds == []
      | .no => false
      | .alt a b c => (Tr.alt a b c).heads == readyN (maskFrom (L ||| (1 <<< i)) s) 0 ds && altsN ds lm t (maskFrom (L ||| (1 <<< i)) s))) && altsN ds lm o L
def nodeN (ds : List Nat) (lm : Nat) (t : Tr) (L : Nat) : Bool := calmN ds lm L && (match t with
  | .done => readyN L 0 ds == []
  | .no => false
  | .alt a b c => (Tr.alt a b c).heads == readyN L 0 ds && altsN ds lm t L)
def ht : Tr → Nat
  | .done => 0
  | .no => 0
  | .alt _ t o => max (ht t) (ht o) + 1
variable {P : Program} {lk : List Nat} {l : List Oper} {lm : Nat}
theorem find_eq {A : Array Bool} {L : Nat} (h : Rel l.length A L) (he : (l.all fun o => (edges o).all (· < l.length)) = true) (hl : ((List.range l.length).all fun i => lm.testBit i == like P lk l.toArray i) = true) : first P lk l.toArray A = (readyN L 0 (depsOf l)).find? (fun i => lm.testBit i) := by
  unfold Ty.first
  rw [← ready_eq h he]
  have hr : ∀ i ∈ Region.ready .any l.toArray A, lm.testBit i = like P lk l.toArray i := fun i hi => by
    have : i < l.length := by
      unfold Region.ready at hi
      have := (List.mem_filter.1 hi).1
      simpa using this
    simpa using List.all_eq_true.1 hl i (List.mem_range.2 this)
  generalize Region.ready .any l.toArray A = R at hr
  induction R with
  | nil => rfl
  | cons i R ih =>
    simp only [List.find?_cons, hr i (by simp)]
    rw [ih (fun j hj => hr j (List.mem_cons_of_mem _ hj))]
theorem runN_ok (he : (l.all fun o => (edges o).all (· < l.length)) = true) (hl : ((List.range l.length).all fun i => lm.testBit i == like P lk l.toArray i) = true) : ∀ (s : List Nat) {A : Array Bool} {L : Nat}, Rel l.length A L → runN (depsOf l) lm L s = true → Ty.runOK P lk l.toArray A s = true
  | [], A, L, _, _ => rfl
  | i :: s, A, L, h, hn => by
    simp only [runN, Bool.and_eq_true, beq_iff_eq] at hn
    simp only [Ty.runOK, Bool.and_eq_true, beq_iff_eq]
    exact ⟨(find_eq h he hl).trans hn.1, runN_ok he hl s h.set hn.2⟩
theorem tree_ok (he : (l.all fun o => (edges o).all (· < l.length)) = true) (hl : ((List.range l.length).all fun i => lm.testBit i == like P lk l.toArray i) = true) : ∀ (t : Tr) (f : Nat), 2 * ht t + 1 ≤ f → 
    (∀ {A : Array Bool} {L : Nat}, Rel l.length A L → nodeN (depsOf l) lm t L = true → Ty.trOK P lk l.toArray f A t = true) ∧
    (∀ {A : Array Bool} {L : Nat}, Rel l.length A L → altsN (depsOf l) lm t L = true → Ty.altsOK P lk l.toArray f A t = true) := by
  intro t
  induction t with
  | done =>
    intro f hf
    obtain ⟨g, rfl⟩ : ∃ g, f = g + 1 := ⟨f - 1, by omega⟩
    refine ⟨fun h hn => ?_, fun h hn => by simp [altsN] at hn⟩
    simp only [nodeN, calmN, Bool.and_eq_true, beq_iff_eq] at hn
    simp only [Ty.trOK, Bool.and_eq_true, beq_iff_eq]
    exact ⟨(find_eq h he hl).trans hn.1, (ready_eq h he).trans hn.2⟩
  | no =>
    intro f hf
    obtain ⟨g, rfl⟩ : ∃ g, f = g + 1 := ⟨f - 1, by omega⟩
    exact ⟨fun h hn => by simp [nodeN] at hn, fun h hn => by simp [Ty.altsOK]⟩
  | alt s t o iht iho =>
    have alts : ∀ (f : Nat), 2 * ht (.alt s t o) ≤ f → ∀ {A : Array Bool} {L : Nat}, Rel l.length A L → altsN (depsOf l) lm (.alt s t o) L = true → Ty.altsOK P lk l.toArray f A (.alt s t o) = true := by
      intro f hf A L h hn
      simp only [ht] at hf
      obtain ⟨g, rfl⟩ : ∃ g, f = g + 1 := ⟨f - 1, by omega⟩
      cases s with
      | nil => simp [altsN] at hn
      | cons i s =>
        simp only [altsN, Bool.and_eq_true] at hn
        simp only [Ty.altsOK, Bool.and_eq_true]
        have hg1 : 2 * ht t + 1 ≤ g := by omega
        have hg2 : 2 * ht o + 1 ≤ g := by omega
        refine ⟨⟨runN_ok he hl s h.set hn.1.1.1, (iht g hg1).1 (Rel.mark s h.set) ?_⟩, (iho g hg2).2 h hn.2⟩
        unfold nodeN
        rw [Bool.and_eq_true]
        exact ⟨hn.1.1.2, hn.1.2⟩
    intro f hf
    refine ⟨fun h hn => ?_, fun h hn => alts f (by omega) h hn⟩
    obtain ⟨g, rfl⟩ : ∃ g, f = g + 1 := ⟨f - 1, by omega⟩
    simp only [nodeN, calmN, Bool.and_eq_true, beq_iff_eq] at hn
    simp only [Ty.trOK, Bool.and_eq_true, beq_iff_eq]
    exact ⟨(find_eq h he hl).trans hn.1, hn.2.1.trans (ready_eq h he).symm, alts g (by omega) h hn.2.2⟩
/-- wp_tree, its tree checked by numbers -/
theorem wp_treeN (blocks fl tl lk : List Nat) (s : List Nat) (t : Tr) (ds : List Nat) (lm : Nat) {id : Nat} {l : List Oper} {a : Act} {w : World} {Q : Exit → Act → World → Prop} (hm : P.follows .mixedOrders = true) (ht' : Ty.altOK P fl tl lk l.toArray (Region.before l.toArray) = true)
    (hd : depsOf l = ds) (he : (l.all fun o => (edges o).all (· < l.length)) = true) (hl : ((List.range l.length).all fun i => lm.testBit i == like P lk l.toArray i) = true)
    (hT : (runN ds lm 0 s && decide (2 * ht t + 1 ≤ 100) && nodeN ds lm t (maskFrom 0 s)) = true)
    (hB : ∀ b ∈ blocks, ∃ c e f, w.heap[b]? = some (.cells c e f))
    (h : wpList P l.toArray (RunPost (Ty.wpTr P blocks fl tl w.drew l Q t) Q) (pick l s) a w.drew) : (Code.region id l.toArray true).wp P Q a w := by
  subst hd
  simp only [Bool.and_eq_true, decide_eq_true_eq] at hT
  exact Ty.wp_tree blocks fl tl lk s t hm ht' (runN_ok he hl s (Rel.start _) hT.1.1) ((tree_ok he hl t 100 hT.1.2).1 (Rel.mark s (Rel.start _)) hT.2) hB h
end Go.Txt.Tz
