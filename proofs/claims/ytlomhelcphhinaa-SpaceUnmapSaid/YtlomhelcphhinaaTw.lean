/- A region that draws its order, walked along every order of the operations that are not calm (the calm ones as soon as they can be). -/
import Derived.Test.YtlomhelcphhinaaTv
namespace Go.Txt
open Go
variable {P : Program} {ops : Array Oper} {Q : Exit → Act → World → Prop} {N : Act → World → Prop} {m : Array Nat}

def isCalm (P : Program) (ops : Array Oper) (i : Nat) : Bool := match ops[i]? with | some o => calmKind P o | none => false
def firstCalm (P : Program) (ops : Array Oper) (listed : Array Bool) : Option Nat := (Region.ready .any ops listed).find? (isCalm P ops)
def wpB (P : Program) (ops : Array Oper) (N : Act → World → Prop) : Nat → Array Bool → Act → World → Prop
  | 0, L, a, w => Region.ready .any ops L = [] ∧ N a w
  | f + 1, L, a, w => match firstCalm P ops L with
    | some i => wpOp P ops NP i (wpB P ops N f (L.setIfInBounds i true)) a w
    | none => (Region.ready .any ops L = [] → N a w) ∧ ∀ i ∈ Region.ready .any ops L, wpOp P ops NP i (wpB P ops N f (L.setIfInBounds i true)) a w
/-- the operations of a list, one after the other -/
def wpS (P : Program) (ops : Array Oper) (N : Act → World → Prop) : List Nat → Act → World → Prop
  | [] => N
  | i :: l => wpOp P ops NP i (wpS P ops N l)
theorem wpS_append : ∀ (l1 l2 : List Nat), wpS P ops N (l1 ++ l2) = wpS P ops (wpS P ops N l2) l1
  | [], _ => rfl
  | i :: l1, l2 => by rw [List.cons_append]; unfold wpS; rw [wpS_append l1 l2]
theorem wpS_mono {N' : Act → World → Prop} (h : ∀ a w, N a w → N' a w) : ∀ (l : List Nat) (a : Act) (w : World), wpS P ops N l a w → wpS P ops N' l a w
  | [], a, w, hh => h a w hh
  | i :: l, a, w, hh => by unfold wpS at hh ⊢; exact wpOp_mono (fun a w => wpS_mono h l a w) hh
theorem wpS_exists : ∀ (l : List Nat) (a : Act) (w : World), wpS P ops N l a w → ∃ a' w', N a' w'
  | [], a, w, h => ⟨a, w, h⟩
  | i :: l, a, w, h => by
    unfold wpS at h
    cases hi : ops[i]? with
    | none => unfold wpOp at h; simp only [hi] at h; exact wpS_exists l a w h
    | some o => obtain ⟨a1, w1, h1⟩ := wpOp_some hi h; exact wpS_exists l a1 w1 h1
def mark (L : Array Bool) (s : List Nat) : Array Bool := s.foldl (fun L i => L.setIfInBounds i true) L
theorem mark_set (s : List Nat) : ∀ (L : Array Bool) (i : Nat), mark (L.setIfInBounds i true) s = (mark L s).setIfInBounds i true := by
  induction s with
  | nil => intro L i; rfl
  | cons j s ih =>
    intro L i
    show mark ((L.setIfInBounds i true).setIfInBounds j true) s = (mark (L.setIfInBounds j true) s).setIfInBounds i true
    rw [← ih]
    congr 1
    by_cases h : i = j
    · subst h; rfl
    · exact Array.setIfInBounds_comm _ _ h
theorem mark_append (L : Array Bool) (s t : List Nat) : mark L (s ++ t) = mark (mark L s) t := by simp [mark]
/-- valid calm operations, one after the other -/
def Run (P : Program) (ops : Array Oper) : Array Bool → List Nat → Prop
  | _, [] => True
  | D, i :: s => i ∈ Region.ready .any ops D ∧ isCalm P ops i = true ∧ Run P ops (D.setIfInBounds i true) s
theorem ready_more {D : Array Bool} {i j : Nat} (hi : i ∈ Region.ready .any ops D) (hne : i ≠ j) : i ∈ Region.ready .any ops (D.setIfInBounds j true) := by
  obtain ⟨h0, o, ho, h⟩ := mem_ready.1 hi
  exact mem_ready.2 ⟨by rw [getD_set_ne true (Ne.symm hne)]; exact h0, o, ho, fun e he hb => getD_set_true (h e he hb)⟩
theorem ready_ne {D : Array Bool} {i j : Nat} (hj : j < D.size) (hi : i ∈ Region.ready .any ops (D.setIfInBounds j true)) : i ≠ j := by
  rintro rfl
  have := (mem_ready.1 hi).1
  simp [hj] at this
theorem ready_lt {D : Array Bool} {i : Nat} (hs : D.size = ops.size) (hi : i ∈ Region.ready .any ops D) : i < D.size := by
  obtain ⟨_, o, ho, _⟩ := mem_ready.1 hi
  rw [hs]; exact (Array.getElem?_eq_some_iff.1 ho).1
theorem ready_mark {i : Nat} : ∀ (s : List Nat) {D : Array Bool}, i ∈ Region.ready .any ops D → i ∉ s → i ∈ Region.ready .any ops (mark D s)
  | [], D, hi, _ => hi
  | j :: s, D, hi, hn => ready_mark s (ready_more hi (by simp at hn; exact hn.1)) (by simp at hn; exact hn.2)
theorem run_drop {i : Nat} : ∀ (s1 s2 : List Nat) {D : Array Bool}, D.size = ops.size → i ∈ Region.ready .any ops D → i ∉ s1 → Run P ops D (s1 ++ i :: s2) → Run P ops (D.setIfInBounds i true) (s1 ++ s2)
  | [], s2, D, _, _, _, h => h.2.2
  | j :: s1, s2, D, hs, hi, hn, h => by
    have hij : i ≠ j := by simp at hn; exact hn.1
    refine ⟨ready_more h.1 (Ne.symm hij), h.2.1, ?_⟩
    rw [Array.setIfInBounds_comm _ _ hij]
    exact run_drop s1 s2 (by simpa using hs) (ready_more hi hij) (by simp at hn; exact hn.2) h.2.2
theorem run_more {i : Nat} : ∀ (s : List Nat) {D : Array Bool}, i ∉ s → Run P ops D s → Run P ops (D.setIfInBounds i true) s
  | [], _, _, _ => trivial
  | j :: s, D, hn, h => by
    have hij : i ≠ j := by simp at hn; exact hn.1
    refine ⟨ready_more h.1 (Ne.symm hij), h.2.1, ?_⟩
    rw [Array.setIfInBounds_comm _ _ hij]
    exact run_more s (by simp at hn; exact hn.2) h.2.2
theorem run_snoc {c : Nat} : ∀ (s : List Nat) {D : Array Bool}, Run P ops D s → c ∈ Region.ready .any ops (mark D s) → isCalm P ops c = true → Run P ops D (s ++ [c])
  | [], D, _, hc, hk => ⟨hc, hk, trivial⟩
  | j :: s, D, h, hc, hk => ⟨h.1, h.2.1, run_snoc s h.2.2 hc hk⟩

theorem run_prefix : ∀ (s1 s2 : List Nat) {D : Array Bool}, Run P ops D (s1 ++ s2) → Run P ops D s1
  | [], _, _, _ => trivial
  | _ :: s1, s2, _, h => ⟨h.1, h.2.1, run_prefix s1 s2 h.2.2⟩
theorem split_first {i : Nat} : ∀ (s : List Nat), i ∈ s → ∃ s1 s2, s = s1 ++ i :: s2 ∧ i ∉ s1
  | [], h => by cases h
  | j :: s, h => by
    by_cases hij : i = j
    · subst hij; exact ⟨[], s, rfl, by simp⟩
    · obtain ⟨s1, s2, rfl, hn⟩ := split_first s (by simpa [hij] using h)
      exact ⟨j :: s1, s2, rfl, by simp [hij, hn]⟩
theorem mark_mid (D : Array Bool) (s1 s2 : List Nat) (i : Nat) : mark D (s1 ++ i :: s2) = mark (D.setIfInBounds i true) (s1 ++ s2) := by
  rw [mark_append, mark_append, mark_set]; rfl
/-- calm operations ask nothing plain of their operands; two that do not wait for each other are apart, if one is calm -/
def altOK (P : Program) (ops : Array Oper) (m : Array Nat) : Bool :=
  Region.noSelect ops && masksOK ops m && (List.range ops.size).all fun j => match ops[j]? with
    | none => true
    | some oj => !calmKind P oj || (List.range ops.size).all fun i => decide (i = j) || waits m i j || waits m j i || match ops[i]? with | some oi => !asksPlain oj && oj.apart ops oi | none => true
theorem altOK_parts (h : altOK P ops m = true) : Region.noSelect ops = true ∧ masksOK ops m = true ∧ ∀ (j : Nat) (oj : Oper), ops[j]? = some oj → calmKind P oj = true →
    ∀ (i : Nat) (oi : Oper), ops[i]? = some oi → i ≠ j → waits m i j = false → waits m j i = false → asksPlain oj = false ∧ oj.apart ops oi = true := by
  unfold altOK at h
  simp only [Bool.and_eq_true] at h
  obtain ⟨⟨h1, h2⟩, h3⟩ := h
  refine ⟨h1, h2, fun j oj hj hc => ?_⟩
  have h4 := List.all_eq_true.1 h3 j (List.mem_range.2 (Array.getElem?_eq_some_iff.1 hj).1)
  simp only [hj, hc, Bool.not_true, Bool.false_or] at h4
  intro i oi hi hne w1 w2
  have h5 := List.all_eq_true.1 h4 i (List.mem_range.2 (Array.getElem?_eq_some_iff.1 hi).1)
  simpa [hne, w1, w2, hi] using h5

def Closed (ops : Array Oper) (D : Array Bool) : Prop := ∀ k o, ops[k]? = some o → D.getD k false = true → ∀ e ∈ o.after, Region.binds .any e = true → D.getD e.on false = true
theorem Closed.add {D : Array Bool} (h : Closed ops D) {i : Nat} (hi : i ∈ Region.ready .any ops D) : Closed ops (D.setIfInBounds i true) := by
  intro k o ho hk e he hb
  obtain ⟨_, oi, hoi, hd⟩ := mem_ready.1 hi
  by_cases hki : k = i
  · subst hki
    rw [ho] at hoi; cases hoi
    exact getD_set_true (hd e he hb)
  · rw [getD_set_ne false (Ne.symm hki)] at hk
    exact getD_set_true (h k o ho hk e he hb)
theorem no_wait (hm : masksOK ops m = true) {D : Array Bool} (hs : D.size = ops.size) (hc : Closed ops D) {i j : Nat} (hi : i ∈ Region.ready .any ops D) (hj : j ∈ Region.ready .any ops D) : waits m i j = false := by
  cases hw : waits m i j with
  | false => rfl
  | true =>
    obtain ⟨_, oi, hoi, hd⟩ := mem_ready.1 hi
    have h1 := waits_listed hm hc i oi hoi hd j hw
    have h2 := (mem_ready.1 hj).1
    have hlt := ready_lt hs hj
    simp [hlt] at h1 h2
    rw [h1] at h2; cases h2

theorem calm_swap (hs : Region.noSelect ops = true) {i j : Nat} {oi oj : Oper} (hi : ops[i]? = some oi) (hj : ops[j]? = some oj) (hk : calmKind P oj = true) (hp : asksPlain oj = false) (hap : oj.apart ops oi = true)
    {l : List Nat} {a : Act} {w : World} (h : wpS P ops N (j :: i :: l) a w) : wpS P ops N (i :: j :: l) a w := by
  have hsi := Region.noSelect_spec hs i oi
  have hsj := Region.noSelect_spec hs j oj
  unfold wpS at h ⊢
  unfold wpS at h ⊢
  obtain ⟨v, hy, h⟩ := yields_of hj hk (plainAt_idle hp _) h
  have := wpOp_put (Q := NP) hi hap (fun cs b => hsj cs b hj) (fun cs b => hsi cs b hi) (fun c a w h => h) hy h
  exact wpOp_mono (fun a' w' h' => h'.1.wpOp hj h'.2) this

theorem bubbleB (ht : altOK P ops m = true) {i : Nat} {s2 : List Nat} : ∀ (s1 : List Nat) {D : Array Bool}, D.size = ops.size → Closed ops D → i ∈ Region.ready .any ops D → i ∉ s1 → Run P ops D s1 → ∀ (a : Act) (w : World),
    wpS P ops N (s1 ++ i :: s2) a w → wpS P ops N (i :: (s1 ++ s2)) a w
  | [], _, _, _, _, _, _, _, _, h => h
  | j :: s1, D, hs, hc, hi, hn, hr, a, w, h => by
    obtain ⟨hsel, hm, hparts⟩ := altOK_parts ht
    have hij : i ≠ j := by simp at hn; exact hn.1
    obtain ⟨_, oi, hoi, _⟩ := mem_ready.1 hi
    obtain ⟨_, oj, hoj, _⟩ := mem_ready.1 hr.1
    have hcj : calmKind P oj = true := by have := hr.2.1; simpa [isCalm, hoj] using this
    obtain ⟨hpj, hap⟩ := hparts j oj hoj hcj i oi hoi hij (no_wait hm hs hc hi hr.1) (no_wait hm hs hc hr.1 hi)
    refine calm_swap hsel hoi hoj hcj hpj hap ?_
    have h' : wpS P ops N (j :: (s1 ++ i :: s2)) a w := h
    unfold wpS at h' ⊢
    exact wpOp_mono (fun a' w' hh => bubbleB ht s1 (by simpa using hs) (hc.add hr.1) (ready_more hi hij) (by simp at hn; exact hn.2) hr.2.2 a' w' hh) h'

theorem expose {D : Array Bool} {i : Nat} (hi : i ∈ Region.ready .any ops D) {a : Act} {w : World} : ∀ (f : Nat) (s : List Nat), Run P ops D s → i ∉ s → wpS P ops (wpB P ops N f (mark D s)) s a w →
    ∃ s' f', Run P ops D s' ∧ i ∉ s' ∧ wpS P ops (fun a w => wpOp P ops NP i (wpB P ops N f' ((mark D s').setIfInBounds i true)) a w) s' a w
  | 0, s, _, hn, h => by
    obtain ⟨a', w', h', _⟩ := wpS_exists s a w h
    have := ready_mark s hi hn
    rw [h'] at this; cases this
  | f + 1, s, hr, hn, h => by
    cases hfc : firstCalm P ops (mark D s) with
    | some c =>
      have h1 : wpS P ops (fun a w => wpOp P ops NP c (wpB P ops N f ((mark D s).setIfInBounds c true)) a w) s a w := wpS_mono (fun a w hh => by simpa only [wpB, hfc] using hh) s a w h
      by_cases hci : c = i
      · subst hci; exact ⟨s, f, hr, hn, h1⟩
      · have hcm := List.mem_of_find?_eq_some hfc
        have hck : isCalm P ops c = true := by simpa using List.find?_some hfc
        refine expose hi f (s ++ [c]) (run_snoc s hr hcm hck) (by simp [hn]; exact fun e => hci e.symm) ?_
        rw [mark_append, wpS_append]
        exact h1
    | none =>
      refine ⟨s, f, hr, hn, wpS_mono (fun a w hh => ?_) s a w h⟩
      simp only [wpB, hfc] at hh
      exact hh.2 i (ready_mark s hi hn)

theorem wpAny_of_B (ht : altOK P ops m = true) (hNQ : ∀ a w, N a w → Q .normal a w) : ∀ (fuel : Nat) (D : Array Bool) (s : List Nat) (f : Nat) (a : Act) (w : World), D.size = ops.size → (left ops D).length ≤ fuel → Closed ops D → Run P ops D s →
    wpS P ops (wpB P ops N f (mark D s)) s a w → wpAny P .any ops Q fuel D a w := by
  have hend : ∀ (D : Array Bool) (s : List Nat) (f : Nat) (a : Act) (w : World), Region.ready .any ops D = [] → Run P ops D s → wpS P ops (wpB P ops N f (mark D s)) s a w → N a w := by
    intro D s f a w hr hrun h
    cases s with
    | cons i s => have := hrun.1; rw [hr] at this; cases this
    | nil =>
      cases f with
      | zero => exact h.2
      | succ f =>
        have hfc : firstCalm P ops D = none := by simp [firstCalm, hr]
        have h' : wpB P ops N (f + 1) D a w := h
        simp only [wpB, hfc] at h'
        exact h'.1 hr
  intro fuel
  induction fuel with
  | zero =>
    intro D s f a w hs hl hc hr h
    have hre : Region.ready .any ops D = [] := by
      cases hre : Region.ready .any ops D with
      | nil => rfl
      | cons k r =>
        have hk := mem_ready.1 (show k ∈ Region.ready .any ops D by rw [hre]; simp)
        obtain ⟨h0, o, ho, _⟩ := hk
        have : k ∈ left ops D := by simp [left, (Array.getElem?_eq_some_iff.1 ho).1]; simpa using h0
        rw [List.length_eq_zero_iff.1 (Nat.le_zero.1 hl)] at this; cases this
    exact ⟨hre, hNQ _ _ (hend D s f a w hre hr h)⟩
  | succ fuel ih =>
    intro D s f a w hs hl hc hr h
    refine ⟨fun hre => hNQ _ _ (hend D s f a w hre hr h), fun i hi => ?_⟩
    have hlt := ready_lt hs hi
    have hleft : (left ops (D.setIfInBounds i true)).length ≤ fuel := by
      have himem : i ∈ left ops D := by
        have := (mem_ready.1 hi).1
        simp [left]; exact ⟨by omega, by simpa using this⟩
      have e1 : left ops (D.setIfInBounds i true) = (left ops D).filter (fun k => k != i) := by
        unfold left
        rw [List.filter_filter]
        apply List.filter_congr
        intro k hk
        by_cases hki : k = i
        · subst hki; simp [hlt]
        · rw [getD_set_ne true (Ne.symm hki)]; simp [hki]
      rw [e1]
      have : ((left ops D).filter (fun k => k != i)).length < (left ops D).length := List.length_filter_lt_length_iff_exists.2 ⟨i, himem, by simp⟩
      omega
    have hfin : ∀ (s1 s2 : List Nat) (f : Nat), i ∉ s1 → Run P ops D s1 → Run P ops (D.setIfInBounds i true) (s1 ++ s2) →
        wpS P ops (wpB P ops N f (mark (D.setIfInBounds i true) (s1 ++ s2))) (s1 ++ i :: s2) a w → wpOp P ops Q i (wpAny P .any ops Q fuel (D.setIfInBounds i true)) a w := by
      intro s1 s2 f hn hr1 hr2 hh
      have hb := bubbleB ht s1 hs hc hi hn hr1 a w hh
      unfold wpS at hb
      exact wpOp_chg (fun c a w h => (h : False).elim) (fun h => (NP.noOut h).elim) (wpOp_mono (fun a' w' h' => ih _ _ f a' w' (by simpa using hs) hleft (hc.add hi) hr2 h') hb)
    by_cases his : i ∈ s
    · obtain ⟨s1, s2, rfl, hn⟩ := split_first s his
      refine hfin s1 s2 f hn (run_prefix s1 _ hr) (run_drop s1 s2 hs hi hn hr) ?_
      rw [← mark_mid]
      exact h
    · obtain ⟨s', f', hr', hn', h'⟩ := expose hi f s hr his h
      refine hfin s' [] f' hn' hr' (by rw [List.append_nil]; exact run_more s' hn' hr') ?_
      rw [List.append_nil, mark_set, wpS_append]
      exact h'

/-- the region, by every order of its operations that are not calm -/
theorem wp_alts {id : Nat} {l : List Oper} {a : Act} {w : World} (hm : P.follows .mixedOrders = true) (ht : altOK P l.toArray (Region.before l.toArray) = true)
    (h : wpB P l.toArray (fun a w => Q .normal a w) l.length (Array.replicate l.length false) a w.drew) : (Code.region id l.toArray true).wp P Q a w := by
  refine wp_region_any hm ?_
  refine wpAny_of_B (N := fun a w => Q .normal a w) ht (fun a w h => h) _ _ [] l.length _ _ (by simp) (Nat.le_trans (List.length_filter_le _ _) (by simp)) (fun k o ho hk => ?_) trivial (by simpa [mark, wpS] using h)
  exfalso
  rcases Nat.lt_or_ge k l.length with h' | h' <;> simp [h'] at hk

/-- the tree of the orders: runs of operations; 'alt s t o': the run s (its first operation one of those that are ready), then t; or else o -/
inductive Tr
  | done : Tr
  | no : Tr
  | alt : List Nat → Tr → Tr → Tr
def pick (l : List Oper) : List Nat → List Oper
  | [] => []
  | i :: s => match l[i]? with
    | some o => o :: pick l s
    | none => pick l s
/-- the post of a run -/
def RunPost (N : Act → World → Prop) (Q : Exit → Act → World → Prop) : Exit → Act → World → Prop
  | .normal, a, w => N a w
  | .panic _, _, _ => False
  | .outgrown, _, _ => False
  | e, a, w => Q e a w
theorem RunPost.mk {N : Act → World → Prop} {Q : Exit → Act → World → Prop} {a : Act} {w : World} (h : N a w) : RunPost N Q .normal a w := h
def wpTr (P : Program) (l : List Oper) (Q : Exit → Act → World → Prop) : Tr → Act → World → Prop
  | .done, a, w => Q .normal a w
  | .no, _, _ => True
  | .alt s t o, a, w => wpList P l.toArray (RunPost (wpTr P l Q t) Q) (pick l s) a w ∧ wpTr P l Q o a w
/-- the runs' first operations -/
def Tr.heads : Tr → List Nat
  | .alt (i :: _) _ o => i :: o.heads
  | _ => []
/-- the run s is what comes from L on: calm operations as they come -/
def runOK (P : Program) (ops : Array Oper) : Array Bool → List Nat → Bool
  | _, [] => true
  | L, i :: s => firstCalm P ops L == some i && runOK P ops (L.setIfInBounds i true) s
mutual
/-- behind a run: no calm operation is ready -/
def trOK (P : Program) (ops : Array Oper) : Nat → Array Bool → Tr → Bool
  | 0, _, _ => false
  | f + 1, L, t => firstCalm P ops L == none && match t with
    | .done => Region.ready .any ops L == []
    | .no => false
    | .alt s t' o => (Tr.alt s t' o).heads == Region.ready .any ops L && altsOK P ops f L (.alt s t' o)
def altsOK (P : Program) (ops : Array Oper) : Nat → Array Bool → Tr → Bool
  | 0, _, _ => false
  | _ + 1, _, .no => true
  | _ + 1, _, .done => false
  | f + 1, L, .alt s t o => (match s with
    | [] => false
    | i :: s => runOK P ops (L.setIfInBounds i true) s && trOK P ops f (mark (L.setIfInBounds i true) s) t) && altsOK P ops f L o
end

theorem left_set {D : Array Bool} (hs : D.size = ops.size) {i : Nat} (hi : i ∈ Region.ready .any ops D) : (left ops (D.setIfInBounds i true)).length < (left ops D).length := by
  have hlt := ready_lt hs hi
  have himem : i ∈ left ops D := by
    have := (mem_ready.1 hi).1
    simp [left]; exact ⟨by omega, by simpa using this⟩
  have e1 : left ops (D.setIfInBounds i true) = (left ops D).filter (fun k => k != i) := by
    unfold left
    rw [List.filter_filter]
    apply List.filter_congr
    intro k hk
    by_cases hki : k = i
    · subst hki; simp [hlt]
    · rw [getD_set_ne true (Ne.symm hki)]; simp [hki]
  rw [e1]
  exact List.length_filter_lt_length_iff_exists.2 ⟨i, himem, by simp⟩
theorem list_S {l : List Oper} {K : Act → World → Prop} : ∀ (s : List Nat) (a : Act) (w : World), wpList P l.toArray (RunPost K Q) (pick l s) a w → wpS P l.toArray K s a w
  | [], _, _, h => h
  | i :: s, a, w, h => by
    unfold wpS
    cases hi : l[i]? with
    | none =>
      have hp : pick l (i :: s) = pick l s := by simp [pick, hi]
      rw [hp] at h
      unfold wpOp
      have : l.toArray[i]? = none := by simpa using hi
      simp only [this]
      exact list_S s a w h
    | some o =>
      have hp : pick l (i :: s) = o :: pick l s := by simp [pick, hi]
      rw [hp] at h
      have hk : l.toArray[i]? = some o := by simpa using hi
      have h1 : wpOp P l.toArray (RunPost K Q) i (wpList P l.toArray (RunPost K Q) (pick l s)) a w := by
        unfold wpOp; simp only [hk]; exact h
      exact wpOp_chg (fun c a w h => (h : False)) (fun ⟨a, w, h⟩ => (h : False).elim) (wpOp_mono (fun a' w' h' => list_S s a' w' h') h1)
theorem run_B {Q' : Act → World → Prop} : ∀ (s : List Nat) (L : Array Bool) (n : Nat) (a : Act) (w : World), L.size = ops.size → (left ops L).length ≤ n → runOK P ops L s = true →
    (∀ n', (left ops (mark L s)).length ≤ n' → ∀ a w, N a w → wpB P ops Q' n' (mark L s) a w) → wpS P ops N s a w → wpB P ops Q' n L a w
  | [], L, n, a, w, _, hn, _, hK, h => hK n hn a w h
  | i :: s, L, n, a, w, hs, hn, hr, hK, h => by
    simp only [runOK, Bool.and_eq_true, beq_iff_eq] at hr
    obtain ⟨hfc, hr⟩ := hr
    have hi : i ∈ Region.ready .any ops L := List.mem_of_find?_eq_some hfc
    have hlt := left_set hs hi
    cases n with
    | zero => omega
    | succ n =>
      simp only [wpB, hfc]
      unfold wpS at h
      exact wpOp_mono (fun a' w' h' => run_B s (L.setIfInBounds i true) n a' w' (by simpa using hs) (by omega) hr hK h') h

theorem mark_size (s : List Nat) : ∀ (L : Array Bool), (mark L s).size = L.size := by
  induction s with
  | nil => intro L; rfl
  | cons i s ih => intro L; show (mark (L.setIfInBounds i true) s).size = _; rw [ih]; simp
mutual
theorem tr_B {l : List Oper} : ∀ (f : Nat) (L : Array Bool) (t : Tr) (n : Nat) (a : Act) (w : World), L.size = l.toArray.size → (left l.toArray L).length ≤ n → trOK P l.toArray f L t = true → wpTr P l Q t a w → wpB P l.toArray (fun a w => Q .normal a w) n L a w
  | 0, _, _, _, _, _, _, _, ht, _ => by simp [trOK] at ht
  | f + 1, L, .done, n, a, w, hs, hn, ht, h => by
    simp only [trOK, Bool.and_eq_true, beq_iff_eq] at ht
    obtain ⟨hfc, hr⟩ := ht
    cases n with
    | zero => exact ⟨hr, h⟩
    | succ n =>
      simp only [wpB, hfc]
      exact ⟨fun _ => h, fun i hi => by rw [hr] at hi; cases hi⟩
  | f + 1, L, .no, _, _, _, _, _, ht, _ => by simp [trOK] at ht
  | f + 1, L, .alt s t o, n, a, w, hs, hn, ht, h => by
    simp only [trOK, Bool.and_eq_true, beq_iff_eq] at ht
    obtain ⟨hfc, hh, ha⟩ := ht
    have key := alts_B f L (.alt s t o) n a w hs hn ha h
    rw [hh] at key
    have hne : ∃ i, i ∈ Region.ready .any l.toArray L := by
      cases s with
      | nil => cases f <;> simp [altsOK] at ha
      | cons i s => exact ⟨i, by rw [← hh]; simp [Tr.heads]⟩
    obtain ⟨i0, hi0⟩ := hne
    have hlt := left_set hs hi0
    cases n with
    | zero => omega
    | succ n =>
      simp only [wpB, hfc]
      have h1 : Region.ready .any l.toArray L = [] → Q .normal a w := fun e => by
        rw [e] at hi0; exact absurd hi0 List.not_mem_nil
      exact ⟨h1, fun i hi => key i hi hi n (by have := left_set hs hi; omega)⟩
theorem alts_B {l : List Oper} : ∀ (f : Nat) (L : Array Bool) (t : Tr) (n : Nat) (a : Act) (w : World), L.size = l.toArray.size → (left l.toArray L).length ≤ n → altsOK P l.toArray f L t = true → wpTr P l Q t a w →
    ∀ i ∈ t.heads, i ∈ Region.ready .any l.toArray L → ∀ n', (left l.toArray (L.setIfInBounds i true)).length ≤ n' → wpOp P l.toArray NP i (wpB P l.toArray (fun a w => Q .normal a w) n' (L.setIfInBounds i true)) a w
  | 0, _, _, _, _, _, _, _, ht, _ => by simp [altsOK] at ht
  | f + 1, L, .done, _, _, _, _, _, ht, _ => by simp [altsOK] at ht
  | f + 1, L, .no, _, _, _, _, _, _, _ => by intro i hi; simp [Tr.heads] at hi
  | f + 1, L, .alt [] t o, _, _, _, _, _, ht, _ => by simp [altsOK] at ht
  | f + 1, L, .alt (j :: s) t o, n, a, w, hs, hn, ht, h => by
    simp only [altsOK, Bool.and_eq_true] at ht
    obtain ⟨⟨hr, htr⟩, ho⟩ := ht
    obtain ⟨h1, h2⟩ := h
    intro i hi hir n' hn'
    simp only [Tr.heads, List.mem_cons] at hi
    rcases hi with rfl | hi
    · have hS := list_S (i :: s) a w h1
      unfold wpS at hS
      exact wpOp_mono (fun a' w' h' => run_B s (L.setIfInBounds i true) n' a' w' (by simpa using hs) hn' hr (fun n'' hn'' a w hw => tr_B f _ t n'' a w (by rw [mark_size]; simpa using hs) hn'' htr hw) h') hS
    · exact alts_B f L o n a w hs hn ho h2 i hi hir n' hn'
end
/-- **A region that draws its order, by a tree of orders**: the first run (calm operations), then the tree. -/
theorem wp_tree (s : List Nat) (t : Tr) {id : Nat} {l : List Oper} {a : Act} {w : World} (hm : P.follows .mixedOrders = true) (ht : altOK P l.toArray (Region.before l.toArray) = true)
    (hr : runOK P l.toArray (Array.replicate l.length false) s = true) (hT : trOK P l.toArray 100 (mark (Array.replicate l.length false) s) t = true)
    (h : wpList P l.toArray (RunPost (wpTr P l Q t) Q) (pick l s) a w.drew) : (Code.region id l.toArray true).wp P Q a w := by
  refine wp_alts hm ht ?_
  refine run_B s _ _ _ _ (by simp) (Nat.le_trans (List.length_filter_le _ _) (by simp)) hr (fun n' hn' a w hw => tr_B 100 _ t n' a w (by rw [mark_size]; simp) hn' hT hw) (list_S s _ _ h)
end Go.Txt
namespace Go.Txt
open Go
theorem wpTr_gen {P : Program} {l : List Oper} {Q : Exit → Act → World → Prop} {t : Tr} {a : Act} {w : World} {I : World → Prop} (h : I w) (k : ∀ w', I w' → wpTr P l Q t a w') : wpTr P l Q t a w := k w h
theorem wpTr_alt {P : Program} {l : List Oper} {Q : Exit → Act → World → Prop} {s : List Nat} {t o : Tr} {a : Act} {w : World} (h : wpList P l.toArray (RunPost (wpTr P l Q t) Q) (pick l s) a w) (k : wpTr P l Q o a w) : wpTr P l Q (.alt s t o) a w := ⟨h, k⟩
theorem wpTr_no {P : Program} {l : List Oper} {Q : Exit → Act → World → Prop} {a : Act} {w : World} : wpTr P l Q .no a w := trivial
theorem wpTr_done {P : Program} {l : List Oper} {Q : Exit → Act → World → Prop} {a : Act} {w : World} (h : Q .normal a w) : wpTr P l Q .done a w := h
end Go.Txt
