/- A region that draws its order, walked along every order of the operations that are neither calm nor loads from blocks that nobody changes. -/
import Derived.Test.YtlomhelcphhinaaTw
namespace Go.Txt.Ty
open Go
variable {P : Program} {ops : Array Oper} {Q : Exit → Act → World → Prop} {N : Act → World → Prop} {m : Array Nat} {S : World → Prop} {blocks fl tl lk : List Nat} {w0 : World}

/-- calm, or one of the loads lk -/
def like (P : Program) (lk : List Nat) (ops : Array Oper) (i : Nat) : Bool := match ops[i]? with | some o => calmKind P o || (roKind P o && lk.contains i) | none => false
/-- behind which S is to be shown: all that change memory but tl -/
def mvY (P : Program) (tl : List Nat) (ops : Array Oper) (k : Nat) : Bool := !tl.contains k && match ops[k]? with | some o => !(calmKind P o || roKind P o) | none => false
def first (P : Program) (lk : List Nat) (ops : Array Oper) (listed : Array Bool) : Option Nat := (Region.ready .any ops listed).find? (like P lk ops)
def wpB (P : Program) (lk tl : List Nat) (ops : Array Oper) (S : World → Prop) (N : Act → World → Prop) : Nat → Array Bool → Act → World → Prop
  | 0, L, a, w => Region.ready .any ops L = [] ∧ N a w
  | f + 1, L, a, w => match first P lk ops L with
    | some i => wpOp P ops NP i (fun a' w' => (mvY P tl ops i = true → S w') ∧ wpB P lk tl ops S N f (L.setIfInBounds i true) a' w') a w
    | none => (Region.ready .any ops L = [] → N a w) ∧ ∀ i ∈ Region.ready .any ops L, wpOp P ops NP i (fun a' w' => (mvY P tl ops i = true → S w') ∧ wpB P lk tl ops S N f (L.setIfInBounds i true) a' w') a w
theorem F_mono {mv : Nat → Bool} {N' : Act → World → Prop} (h : ∀ a w, N a w → N' a w) : ∀ (l : List Nat) (a : Act) (w : World), wpF P ops S mv N l a w → wpF P ops S mv N' l a w
  | [], a, w, hh => h a w hh
  | i :: l, a, w, hh => by unfold wpF at hh ⊢; exact wpOp_mono (fun a w h' => ⟨h'.1, F_mono h l a w h'.2⟩) hh
/-- valid like operations, one after the other -/
def Run (P : Program) (lk : List Nat) (ops : Array Oper) : Array Bool → List Nat → Prop
  | _, [] => True
  | D, i :: s => i ∈ Region.ready .any ops D ∧ like P lk ops i = true ∧ Run P lk ops (D.setIfInBounds i true) s
theorem run_drop {i : Nat} : ∀ (s1 s2 : List Nat) {D : Array Bool}, D.size = ops.size → i ∈ Region.ready .any ops D → i ∉ s1 → Run P lk ops D (s1 ++ i :: s2) → Run P lk ops (D.setIfInBounds i true) (s1 ++ s2)
  | [], s2, D, _, _, _, h => h.2.2
  | j :: s1, s2, D, hs, hi, hn, h => by
    have hij : i ≠ j := by simp at hn; exact hn.1
    refine ⟨ready_more h.1 (Ne.symm hij), h.2.1, ?_⟩
    rw [Array.setIfInBounds_comm _ _ hij]
    exact run_drop s1 s2 (by simpa using hs) (ready_more hi hij) (by simp at hn; exact hn.2) h.2.2
theorem run_more {i : Nat} : ∀ (s : List Nat) {D : Array Bool}, i ∉ s → Run P lk ops D s → Run P lk ops (D.setIfInBounds i true) s
  | [], _, _, _ => trivial
  | j :: s, D, hn, h => by
    have hij : i ≠ j := by simp at hn; exact hn.1
    refine ⟨ready_more h.1 (Ne.symm hij), h.2.1, ?_⟩
    rw [Array.setIfInBounds_comm _ _ hij]
    exact run_more s (by simp at hn; exact hn.2) h.2.2
theorem run_snoc {c : Nat} : ∀ (s : List Nat) {D : Array Bool}, Run P lk ops D s → c ∈ Region.ready .any ops (mark D s) → like P lk ops c = true → Run P lk ops D (s ++ [c])
  | [], D, _, hc, hk => ⟨hc, hk, trivial⟩
  | j :: s, D, h, hc, hk => ⟨h.1, h.2.1, run_snoc s h.2.2 hc hk⟩
theorem run_prefix : ∀ (s1 s2 : List Nat) {D : Array Bool}, Run P lk ops D (s1 ++ s2) → Run P lk ops D s1
  | [], _, _, _ => trivial
  | _ :: s1, s2, _, h => ⟨h.1, h.2.1, run_prefix s1 s2 h.2.2⟩
theorem getD_false {D : Array Bool} {i k : Nat} (h : (D.setIfInBounds i true).getD k true = false) : D.getD k true = false := by
  by_cases e : i = k
  · subst e
    rcases Nat.lt_or_ge i D.size with h' | h' <;> simp [h'] at h
  · rw [getD_set_ne true e] at h; exact h
theorem getD_mark {k : Nat} : ∀ (s : List Nat) {D : Array Bool}, (mark D s).getD k true = false → D.getD k true = false
  | [], _, h => h
  | _ :: s, _, h => getD_false (getD_mark s h)
/-- what is run had not come up -/
theorem run_left : ∀ (s : List Nat) {D : Array Bool}, Run P lk ops D s → ∀ k ∈ s, D.getD k true = false
  | [], _, _, k, hk => by cases hk
  | j :: s, D, h, k, hk => by
    rcases List.mem_cons.1 hk with rfl | hk
    · exact (mem_ready.1 h.1).1
    · exact getD_false (run_left s h.2.2 k hk)

/-- no loads but those that float are called like calm ones; two that do not wait for each other are apart, if one is like a calm one -/
def altOK (P : Program) (fl tl lk : List Nat) (ops : Array Oper) (m : Array Nat) : Bool :=
  (Region.noSelect ops && tl.all fun k => fl.all fun f => waits m k f) && masksOK ops m && (List.range ops.size).all fun j => match ops[j]? with
    | none => true
    | some oj => (!like P lk ops j || (List.range ops.size).all fun i => decide (i = j) || waits m i j || waits m j i || match ops[i]? with | some oi => pairOK P fl (mvY P tl ops) j i oj oi ops | none => true) &&
      (!(asksPlain oj || fl.contains j) || (List.range ops.size).all fun k => waits m j k || match ops[k]? with
        | some ok => match ok.dst with | some d => !(oj.looksAt ops).contains d | none => true
        | none => true)
theorem altOK_parts (h : altOK P fl tl lk ops m = true) : (Region.noSelect ops = true ∧ ∀ k ∈ tl, ∀ f ∈ fl, waits m k f = true) ∧ masksOK ops m = true ∧
    (∀ (j : Nat) (oj : Oper), ops[j]? = some oj → like P lk ops j = true → ∀ (i : Nat) (oi : Oper), ops[i]? = some oi → i ≠ j → waits m i j = false → waits m j i = false → pairOK P fl (mvY P tl ops) j i oj oi ops = true) ∧
    (∀ (j : Nat) (oj : Oper), ops[j]? = some oj → asksPlain oj = true ∨ j ∈ fl → ∀ (k : Nat) (ok : Oper), ops[k]? = some ok → waits m j k = false → ∀ t ∈ oj.looksAt ops, ok.dst ≠ some t) := by
  unfold altOK at h
  simp only [Bool.and_eq_true] at h
  obtain ⟨⟨h1, h2⟩, h3⟩ := h
  have h4 : ∀ (j : Nat) (oj : Oper), ops[j]? = some oj → _ := fun j oj hj => List.all_eq_true.1 h3 j (List.mem_range.2 (Array.getElem?_eq_some_iff.1 hj).1)
  refine ⟨⟨h1.1, fun k hk f hf => List.all_eq_true.1 (List.all_eq_true.1 h1.2 k hk) f hf⟩, h2, fun j oj hj hc i oi hi hne w1 w2 => ?_, fun j oj hj ha k ok hk hw t ht he => ?_⟩
  · have h5 := h4 j oj hj
    simp only [hj, Bool.and_eq_true, hc, Bool.not_true, Bool.false_or] at h5
    have h6 := List.all_eq_true.1 h5.1 i (List.mem_range.2 (Array.getElem?_eq_some_iff.1 hi).1)
    simpa [hne, w1, w2, hi] using h6
  · have h5 := h4 j oj hj
    simp only [hj, Bool.and_eq_true] at h5
    have h5 := h5.2
    have ha' : (asksPlain oj || fl.contains j) = true := by simpa using ha
    simp only [ha', Bool.not_true, Bool.false_or] at h5
    have h6 := List.all_eq_true.1 h5 k (List.mem_range.2 (Array.getElem?_eq_some_iff.1 hk).1)
    simp only [hw, hk, Bool.false_or, he, Bool.not_eq_true', List.contains_eq_mem, decide_eq_false_iff_not] at h6
    exact h6 ht

/-- behind N all goes to an end that is checked, and only those that had not come up write -/
def Ends (blocks fl : List Nat) (ops : Array Oper) (E : Array Bool) (N : Act → World → Prop) : Prop :=
  ∀ a w, N a w → ∃ a', Chk blocks fl ops a' ∧ ∀ t, (∀ k o, ops[k]? = some o → E.getD k true = false → o.dst ≠ some t) → a'.tmps.getD t undef = a.tmps.getD t undef
theorem B_ends (hN : ∀ a w, N a w → Chk blocks fl ops a) : ∀ (f : Nat) (L : Array Bool), Ends blocks fl ops L (wpB P lk tl ops S N f L)
  | 0, L, a, w, h => ⟨a, hN a w h.2, fun _ _ => rfl⟩
  | f + 1, L, a, w, h => by
    have step : ∀ i, i ∈ Region.ready .any ops L → wpOp P ops NP i (fun a' w' => (mvY P tl ops i = true → S w') ∧ wpB P lk tl ops S N f (L.setIfInBounds i true) a' w') a w →
        ∃ a', Chk blocks fl ops a' ∧ ∀ t, (∀ k o, ops[k]? = some o → L.getD k true = false → o.dst ≠ some t) → a'.tmps.getD t undef = a.tmps.getD t undef := by
      intro i hi h'
      obtain ⟨h0, o, ho, _⟩ := mem_ready.1 hi
      obtain ⟨a1, w1, h1, hs1⟩ := wpOp_exists ho h'
      obtain ⟨a', hc, hs⟩ := B_ends hN f _ a1 w1 h1.2
      exact ⟨a', hc, fun t ht => (hs t fun k o hk hl => ht k o hk (getD_false hl)).trans (hs1.slot t (ht i o ho h0))⟩
    cases hf : first P lk ops L with
    | some i =>
      simp only [wpB, hf] at h
      exact step i (List.mem_of_find?_eq_some hf) h
    | none =>
      simp only [wpB, hf] at h
      cases hr : Region.ready .any ops L with
      | nil => exact ⟨a, hN a w (h.1 hr), fun _ _ => rfl⟩
      | cons i r => exact step i (by rw [hr]; simp) (h.2 i (by rw [hr]; simp))
/-- what is asked of an operation holds where it is carried out -/
theorem chk_at {E : Array Bool} (hE : Ends blocks fl ops E N) {k : Nat} {o : Oper} (hk : ops[k]? = some o) {l : List Nat} {a : Act} {w : World}
    (hl : asksPlain o = true ∨ k ∈ fl → ∀ k', k' ∈ l ∨ E.getD k' true = false → ∀ o', ops[k']? = some o' → ∀ t ∈ o.looksAt ops, o'.dst ≠ some t) (h : wpF P ops S (mvY P tl ops) N l a w) : plainAt o a.eval = true ∧ (k ∈ fl → FloatAt blocks o a.eval) := by
  obtain ⟨af, wf, hf, hslots⟩ := wpF_exists l a w h
  obtain ⟨ae, hc, hs2⟩ := hE af wf hf
  have hsl : asksPlain o = true ∨ k ∈ fl → ∀ t ∈ o.looksAt ops, ae.tmps.getD t undef = a.tmps.getD t undef := fun hq t ht =>
    (hs2 t fun k' o' hk' he => hl hq k' (.inr he) o' hk' t ht).trans (hslots t fun k' hk' o' ho' => hl hq k' (.inl hk') o' ho' t ht)
  refine ⟨?_, fun hf => floatAt_slots (ops := ops) (hsl (.inr hf)) (hc.2 k hf o hk)⟩
  cases hq : asksPlain o with
  | false => exact plainAt_idle hq _
  | true => rw [← plainAt_slots (ops := ops) (hsl (.inl hq))]; exact hc.1 k o hk

/-- an adjacent pair exchanged -/
theorem swap_at (hmv : ∀ (k : Nat) (o : Oper), ops[k]? = some o → (calmKind P o || roKind P o) = true → mvY P tl ops k = false) {i j : Nat} {oi oj : Oper} (hi : ops[i]? = some oi) (hj : ops[j]? = some oj) (hs : Region.noSelect ops = true) (hok : pairOK P fl (mvY P tl ops) j i oj oi ops = true)
    {l : List Nat} {a : Act} {w : World} (hS : i ∈ fl ∨ j ∈ fl → SameB blocks w0 w)
    (plI : plainAt oi a.eval = true) (plJ : plainAt oj a.eval = true) (flI : i ∈ fl → FloatAt blocks oi a.eval) (flJ : j ∈ fl → FloatAt blocks oj a.eval)
    (h : wpF P ops (SameB blocks w0) (mvY P tl ops) N (j :: i :: l) a w) : wpF P ops (SameB blocks w0) (mvY P tl ops) N (i :: j :: l) a w := by
  simp only [pairOK, Bool.and_eq_true, Bool.or_eq_true, List.contains_eq_mem, decide_eq_true_eq] at hok
  obtain ⟨hap, hk⟩ := hok
  have hap' := apart_comm hap
  have hsi := Region.noSelect_spec hs i oi
  have hsj := Region.noSelect_spec hs j oj
  obtain ⟨g1, g2, g3⟩ := Oper.apart_spec hap
  unfold wpF at h ⊢
  unfold wpF at h ⊢
  rcases hk with (((hk | hk) | ⟨hki, hkj⟩) | ⟨⟨hki, hif⟩, hmj⟩) | ⟨⟨hkj, hjf⟩, hmi⟩
  · obtain ⟨a1, w1, ⟨_, h1⟩, hs1⟩ := wpOp_exists hj h
    have same1 := hs1.same hap (fun cs b => hsi cs b hi)
    have pl1 : plainAt oi a1.eval = true := by
      rw [plainAt_slots (ops := ops) fun t ht => hs1.slot t fun e => g1 t e ht]; exact plI
    obtain ⟨v, hy1, _⟩ := yields_of hi hk pl1 h1
    have hy : Yields P ops oi v a := hy1.of_same same1.1.symm same1.2.symm
    have hkey : ∀ a' w', Form oj a a' → ∀ K : Act → World → Prop, wpOp P ops NP i K a' w' → K (a'.put oi.dst v) w' := by
      intro a' w' hf' K h'
      have same' := hf'.same hap (fun cs b => hsi cs b hi)
      have pl' : plainAt oi a'.eval = true := by
        rw [plainAt_slots (ops := ops) fun t ht => hf'.slot t fun e => g1 t e ht]; exact plI
      obtain ⟨v', hy', hK⟩ := yields_of hi hk pl' h'
      have : v' = v := by
        have hy'' : Yields P ops oi v' a := hy'.of_same same'.1.symm same'.2.symm
        rcases hy with ⟨hw1, hv1⟩ | ⟨hw1, rfl⟩ <;> rcases hy'' with ⟨hw2, hv2⟩ | ⟨hw2, rfl⟩
        · have := (hv1 w).symm.trans (hv2 w); simp at this; exact this.symm
        · rw [hw1] at hw2; cases hw2
        · rw [hw1] at hw2; cases hw2
        · rfl
      rw [this] at hK
      exact hK
    have hmi : mvY P tl ops i = false := hmv i oi hi (by simp [hk])
    refine hy.wpOp hi ⟨fun hm => (by rw [hmi] at hm; cases hm), ?_⟩
    refine wpOp_put' hj hap' (fun cs b => hsj cs b hj) ?_
    refine wpOp_mono (fun a' w' h' => ?_) (wpOp_form hj h)
    exact ⟨h'.2.1, (hkey a' w' h'.1 _ h'.2.2).2⟩
  · obtain ⟨v, hy, h⟩ := yields_of hj hk plJ h
    have := wpOp_put (Q := NP) hi hap (fun cs b => hsj cs b hj) (fun cs b => hsi cs b hi) (fun c a w h => h) hy h.2
    have hmj : mvY P tl ops j = false := hmv j oj hj (by simp [hk])
    exact wpOp_mono (fun a' w' h' => ⟨h'.2.1, h'.1.wpOp hj ⟨fun hm => (by rw [hmj] at hm; cases hm), h'.2.2⟩⟩) this
  · obtain ⟨vj, hyj, h⟩ := ro_yields hj hkj h
    obtain ⟨_, h⟩ := h
    obtain ⟨vi, hyi, h⟩ := ro_yields hi hki h
    rw [execOp_put oi (fun cs b => hsi cs b hi) a oj.dst vj g1, wanted_put oi a oj.dst vj g1] at hyi
    have hmi : mvY P tl ops i = false := hmv i oi hi (by simp [hki])
    have hmj : mvY P tl ops j = false := hmv j oj hj (by simp [hkj])
    refine of_ro_yields hi hyi ⟨fun hm => (by rw [hmi] at hm; cases hm), ?_⟩
    refine of_ro_yields hj (v := vj) ?_ ⟨fun hm => (by rw [hmj] at hm; cases hm), ?_⟩
    · rw [execOp_put oj (fun cs b => hsj cs b hj) a oi.dst vi g3, wanted_put oj a oi.dst vi g3]; exact hyj
    · rw [← Act.put_comm a vj vi g2]; exact h.2
  · have hS := hS (.inl hif)
    obtain ⟨a1, w1, ⟨hS1, h1⟩, hs1⟩ := wpOp_exists hj h
    have hS1 := hS1 hmj
    have fl' : ∀ a', Form oj a a' → FloatAt blocks oi a'.eval := fun a' hf' =>
      floatAt_slots (ops := ops) (fun t ht => (hf'.slot t fun e => g1 t e ht).symm) (flI hif)
    have same1 := hs1.same hap (fun cs b => hsi cs b hi)
    obtain ⟨v, hy1, _⟩ := float_yields hi hki (fl' a1 hs1) hS1 h1
    have hy : YieldsIf P ops (SameB blocks w0) oi v a := hy1.of_same same1.1.symm same1.2.symm
    refine hy.wpOp hi hS ⟨fun _ => hS, ?_⟩
    refine wpOp_put' hj hap' (fun cs b => hsj cs b hj) ?_
    refine wpOp_mono (fun a' w' h' => ?_) (wpOp_form hj h)
    refine ⟨h'.2.1, ?_⟩
    have hS' := h'.2.1 hmj
    have same' := h'.1.same hap (fun cs b => hsi cs b hi)
    obtain ⟨v', hy', hK⟩ := float_yields hi hki (fl' a' h'.1) hS' h'.2.2
    have : v' = v := by
      have hy'' : YieldsIf P ops (SameB blocks w0) oi v' a := hy'.of_same same'.1.symm same'.2.symm
      rcases hy with ⟨hw1, hv1⟩ | ⟨hw1, rfl⟩ <;> rcases hy'' with ⟨hw2, hv2⟩ | ⟨hw2, rfl⟩
      · have := (hv1 w hS).symm.trans (hv2 w hS); simp at this; exact this.symm
      · rw [hw1] at hw2; cases hw2
      · rw [hw1] at hw2; cases hw2
      · rfl
    rw [this] at hK
    exact hK.2
  · have hS := hS (.inr hjf)
    obtain ⟨v, hy, h⟩ := float_yields hj hkj (flJ hjf) hS h
    have := wpOp_putIf (Q := NP) (S := SameB blocks w0) hi hap (fun cs b => hsj cs b hj) (fun cs b => hsi cs b hi) (fun c a w h => h) hy h.2
    exact wpOp_mono (fun a' w' h' => ⟨h'.2.1, h'.1.wpOp hj (h'.2.1 hmi) ⟨fun _ => h'.2.1 hmi, h'.2.2⟩⟩) this

theorem mvY_none (k : Nat) (o : Oper) (hk : ops[k]? = some o) (h : (calmKind P o || roKind P o) = true) : mvY P tl ops k = false := by simp [mvY, hk, h]
/-- a load that floats has not come up yet -/
def Pend (fl : List Nat) (D : Array Bool) : Prop := ∃ f ∈ fl, D.getD f true = false
theorem Pend.of_set {D : Array Bool} {i : Nat} (h : Pend fl (D.setIfInBounds i true)) : Pend fl D := by
  obtain ⟨f, hf, h⟩ := h; exact ⟨f, hf, getD_false h⟩
theorem bubble (ht : altOK P fl tl lk ops m = true) {i : Nat} {s2 : List Nat} {E : Array Bool} (hE : Ends blocks fl ops E N) : ∀ (s1 : List Nat) {D : Array Bool}, D.size = ops.size → Closed ops D → i ∈ Region.ready .any ops D → i ∉ s1 → Run P lk ops D s1 →
    (∀ k, k ∈ s1 ++ i :: s2 ∨ E.getD k true = false → D.getD k true = false) → (s1 ++ i :: s2).Nodup → (∀ k ∈ s1 ++ i :: s2, E.getD k true = true) → ∀ (a : Act) (w : World), (Pend fl D → SameB blocks w0 w) →
    wpF P ops (SameB blocks w0) (mvY P tl ops) N (s1 ++ i :: s2) a w → wpF P ops (SameB blocks w0) (mvY P tl ops) N (i :: (s1 ++ s2)) a w
  | [], _, _, _, _, _, _, _, _, _, _, _, _, h => h
  | j :: s1, D, hs, hc, hi, hn, hr, hU, hnd, hEl, a, w, hS, h => by
    obtain ⟨⟨hsel, _⟩, hm, hpairs, hplain⟩ := altOK_parts ht
    have hij : i ≠ j := by simp at hn; exact hn.1
    obtain ⟨_, oi, hoi, hdi⟩ := mem_ready.1 hi
    obtain ⟨_, oj, hoj, hdj⟩ := mem_ready.1 hr.1
    have hcj : calmKind P oj = true ∨ roKind P oj = true := by
      have := hr.2.1; simp only [like, hoj, Bool.or_eq_true, Bool.and_eq_true] at this
      rcases this with h | h
      · exact .inl h
      · exact .inr h.1
    have hpo := hpairs j oj hoj hr.2.1 i oi hoi hij (no_wait hm hs hc hi hr.1) (no_wait hm hs hc hr.1 hi)
    -- whoever has not come up is not waited for
    have hnw : ∀ (k x : Nat) (ox : Oper), ops[x]? = some ox → (∀ e ∈ ox.after, Region.binds .any e = true → D.getD e.on false = true) → D.getD k true = false → waits m x k = false := by
      intro k x ox hx hd hk
      cases hw : waits m x k with
      | false => rfl
      | true =>
        have h1 := waits_listed hm hc x ox hx hd k hw
        rcases Nat.lt_or_ge k D.size with h' | h'
        · simp [h'] at h1 hk; rw [h1] at hk; cases hk
        · simp [h'] at hk
    have hask : ∀ (x : Nat) (ox : Oper), ops[x]? = some ox → (∀ e ∈ ox.after, Region.binds .any e = true → D.getD e.on false = true) → asksPlain ox = true ∨ x ∈ fl → ∀ k', k' ∈ (j :: s1) ++ i :: s2 ∨ E.getD k' true = false → ∀ o', ops[k']? = some o' → ∀ t ∈ ox.looksAt ops, o'.dst ≠ some t := fun x ox hx hd hq k' hk' o' ho' =>
      hplain x ox hx hq k' o' ho' (hnw k' x ox hx hd (hU k' hk'))
    obtain ⟨plJ, flJ⟩ := chk_at hE hoj (hask j oj hoj hdj) h
    obtain ⟨plI, flI⟩ := chk_at hE hoi (hask i oi hoi hdi) h
    have h' : wpF P ops (SameB blocks w0) (mvY P tl ops) N (j :: (s1 ++ i :: s2)) a w := h
    unfold wpF at h'
    have h2 := keepS (B := Pend fl D) (B' := Pend fl (D.setIfInBounds j true)) hoj (.inr (by rcases hcj with h | h <;> simp [h])) Pend.of_set plJ hS h'
    refine swap_at mvY_none hoi hoj hsel hpo (fun hor => hS (by rcases hor with h | h; exact ⟨i, h, (mem_ready.1 hi).1⟩; exact ⟨j, h, (mem_ready.1 hr.1).1⟩)) plI plJ flI flJ ?_
    unfold wpF
    have hnd' : (s1 ++ i :: s2).Nodup := (List.nodup_cons.1 hnd).2
    have hjn : j ∉ s1 ++ i :: s2 := (List.nodup_cons.1 hnd).1
    refine wpOp_mono (fun a' w' hh => ⟨hh.2.1, bubble ht hE s1 (by simpa using hs) (hc.add hr.1) (ready_more hi hij) (by simp at hn; exact hn.2) hr.2.2 (fun k hk => ?_) hnd' (fun k hk => hEl k (List.mem_cons_of_mem _ hk)) a' w' hh.1 hh.2.2⟩) h2
    have hne : j ≠ k := by
      rintro rfl
      rcases hk with hk | hk
      · exact hjn hk
      · have := hEl j (by simp); rw [this] at hk; cases hk
    rw [getD_set_ne true hne]
    refine hU k ?_
    rcases hk with hk | hk
    · exact .inl (List.mem_cons_of_mem _ hk)
    · exact .inr hk

theorem run_nodup : ∀ (s : List Nat) {D : Array Bool}, D.size = ops.size → Run P lk ops D s → s.Nodup
  | [], _, _, _ => List.nodup_nil
  | j :: s, D, hs, h => by
    refine List.nodup_cons.2 ⟨fun hm => ?_, run_nodup s (by simpa using hs) h.2.2⟩
    have h1 := run_left s h.2.2 j hm
    have hlt := ready_lt hs h.1
    simp [hlt] at h1
theorem mark_get {k : Nat} : ∀ (s : List Nat) {D : Array Bool}, k ∈ s → (mark D s).getD k true = true
  | [], _, hk => by cases hk
  | j :: s, D, hk => by
    show (mark (D.setIfInBounds j true) s).getD k true = true
    by_cases e : k ∈ s
    · exact mark_get s e
    · have : k = j := by
        rcases List.mem_cons.1 hk with h | h
        · exact h
        · exact absurd h e
      subst this
      cases hh : (mark (D.setIfInBounds k true) s).getD k true with
      | true => rfl
      | false =>
        have h1 : (D.setIfInBounds k true).getD k true = false := getD_mark s hh
        rcases Nat.lt_or_ge k D.size with h' | h' <;> simp [h'] at h1
theorem mark_keep {k : Nat} (D : Array Bool) (s : List Nat) (h : (mark D s).getD k true = false) : D.getD k true = false := getD_mark s h

theorem expose {D : Array Bool} {i : Nat} (hi : i ∈ Region.ready .any ops D) {a : Act} {w : World} : ∀ (f : Nat) (s : List Nat), Run P lk ops D s → i ∉ s → wpF P ops S (mvY P tl ops) (wpB P lk tl ops S N f (mark D s)) s a w →
    ∃ s' f', Run P lk ops D s' ∧ i ∉ s' ∧ wpF P ops S (mvY P tl ops) (wpB P lk tl ops S N f' ((mark D s').setIfInBounds i true)) (s' ++ [i]) a w
  | 0, s, _, hn, h => by
    obtain ⟨a', w', h', _⟩ := wpF_exists s a w h
    have := ready_mark s hi hn
    rw [h'.1] at this; cases this
  | f + 1, s, hr, hn, h => by
    cases hfc : first P lk ops (mark D s) with
    | some c =>
      have h1 : wpF P ops S (mvY P tl ops) (wpB P lk tl ops S N f ((mark D s).setIfInBounds c true)) (s ++ [c]) a w := by
        rw [wpF_append]
        exact F_mono (fun a w hh => by simp only [wpB, hfc] at hh; unfold wpF; exact hh) s a w h
      by_cases hci : c = i
      · subst hci; exact ⟨s, f, hr, hn, h1⟩
      · have hcm := List.mem_of_find?_eq_some hfc
        have hck : like P lk ops c = true := by simpa using List.find?_some hfc
        refine expose hi f (s ++ [c]) (run_snoc s hr hcm hck) (by simp [hn]; exact fun e => hci e.symm) ?_
        rw [mark_append]
        exact h1
    | none =>
      refine ⟨s, f, hr, hn, ?_⟩
      rw [wpF_append]
      refine F_mono (fun a w hh => ?_) s a w h
      simp only [wpB, hfc] at hh
      unfold wpF
      exact hh.2 i (ready_mark s hi hn)

theorem wpAny_of_B (ht : altOK P fl tl lk ops m = true) (hN : ∀ a w, N a w → Chk blocks fl ops a) (hNQ : ∀ a w, N a w → Q .normal a w) : ∀ (fuel : Nat) (D : Array Bool) (s : List Nat) (f : Nat) (a : Act) (w : World), D.size = ops.size → (left ops D).length ≤ fuel → Closed ops D → Run P lk ops D s → (Pend fl D → SameB blocks w0 w) →
    wpF P ops (SameB blocks w0) (mvY P tl ops) (wpB P lk tl ops (SameB blocks w0) N f (mark D s)) s a w → wpAny P .any ops Q fuel D a w := by
  have hend : ∀ (D : Array Bool) (s : List Nat) (f : Nat) (a : Act) (w : World), Region.ready .any ops D = [] → Run P lk ops D s → wpF P ops (SameB blocks w0) (mvY P tl ops) (wpB P lk tl ops (SameB blocks w0) N f (mark D s)) s a w → N a w := by
    intro D s f a w hr hrun h
    cases s with
    | cons i s => have := hrun.1; rw [hr] at this; cases this
    | nil =>
      cases f with
      | zero => exact h.2
      | succ f =>
        have hfc : first P lk ops D = none := by simp [first, hr]
        have h' : wpB P lk tl ops (SameB blocks w0) N (f + 1) D a w := h
        simp only [wpB, hfc] at h'
        exact h'.1 hr
  intro fuel
  induction fuel with
  | zero =>
    intro D s f a w hs hl hc hr hS h
    have hre : Region.ready .any ops D = [] := by
      cases hre : Region.ready .any ops D with
      | nil => rfl
      | cons k r =>
        have hk := mem_ready.1 (show k ∈ Region.ready .any ops D by rw [hre]; simp)
        obtain ⟨h0, o, ho, _⟩ := hk
        have : k ∈ left ops D := by simp [left, (Array.getElem?_eq_some_iff.1 ho).1]; simpa using h0
        rw [List.length_eq_zero_iff.1 (Nat.le_zero.1 hl)] at this; cases this
    exact ⟨hre, hNQ _ _ (hend D s f a w hre hr h)⟩
  | succ fuel ih =>
    intro D s f a w hs hl hc hr hS h
    refine ⟨fun hre => hNQ _ _ (hend D s f a w hre hr h), fun i hi => ?_⟩
    have hlt := ready_lt hs hi
    have hleft : (left ops (D.setIfInBounds i true)).length ≤ fuel := by
      have := left_set hs hi
      omega
    have hi0 := (mem_ready.1 hi).1
    obtain ⟨oi, hoi, hdi⟩ := (mem_ready.1 hi).2
    obtain ⟨⟨_, htl⟩, hm, _, hplain⟩ := altOK_parts ht
    have hfin : ∀ (s1 s2 : List Nat) (f : Nat), i ∉ s1 → Run P lk ops D s1 → Run P lk ops (D.setIfInBounds i true) (s1 ++ s2) → (s1 ++ i :: s2).Nodup → (∀ k ∈ s1 ++ i :: s2, D.getD k true = false) →
        wpF P ops (SameB blocks w0) (mvY P tl ops) (wpB P lk tl ops (SameB blocks w0) N f (mark (D.setIfInBounds i true) (s1 ++ s2))) (s1 ++ i :: s2) a w → wpOp P ops Q i (wpAny P .any ops Q fuel (D.setIfInBounds i true)) a w := by
      intro s1 s2 f hn hr1 hr2 hnd hU hh
      have hE := B_ends (P := P) (tl := tl) (lk := lk) (S := SameB blocks w0) (N := N) hN f (mark (D.setIfInBounds i true) (s1 ++ s2))
      have hU' : ∀ k, k ∈ s1 ++ i :: s2 ∨ (mark (D.setIfInBounds i true) (s1 ++ s2)).getD k true = false → D.getD k true = false := fun k hk => by
        rcases hk with hk | hk
        · exact hU k hk
        · exact getD_false (getD_mark _ hk)
      have hEl : ∀ k ∈ s1 ++ i :: s2, (mark (D.setIfInBounds i true) (s1 ++ s2)).getD k true = true := fun k hk => by
        rw [← mark_mid]; exact mark_get _ hk
      have hb := bubble ht hE s1 hs hc hi hn hr1 hU' hnd hEl a w hS hh
      have hask : asksPlain oi = true ∨ i ∈ fl → ∀ k', k' ∈ i :: (s1 ++ s2) ∨ (mark (D.setIfInBounds i true) (s1 ++ s2)).getD k' true = false → ∀ o', ops[k']? = some o' → ∀ t ∈ oi.looksAt ops, o'.dst ≠ some t := fun hq k' hk' o' ho' => by
        refine hplain i oi hoi hq k' o' ho' ?_
        have hk0 : D.getD k' true = false := hU' k' (by
          rcases hk' with hk | hk
          · exact .inl (by simp at hk ⊢; rcases hk with h | h | h <;> simp [h])
          · exact .inr hk)
        cases hw : waits m i k' with
        | false => rfl
        | true =>
          have h1 := waits_listed hm hc i oi hoi hdi k' hw
          rcases Nat.lt_or_ge k' D.size with h' | h'
          · simp [h'] at h1 hk0; rw [h1] at hk0; cases hk0
          · simp [h'] at hk0
      obtain ⟨plI, _⟩ := chk_at hE hoi hask hb
      unfold wpF at hb
      have hb2 := keepS (B := Pend fl D) (B' := Pend fl (D.setIfInBounds i true)) hoi (by
        cases h1 : calmKind P oi
        · cases h2 : roKind P oi
          · cases h3 : tl.contains i
            · exact .inl (by simp only [mvY, hoi, h1, h2, h3]; rfl)
            · refine .inr (.inr (.inr fun ⟨f, hf, hp⟩ => ?_))
              have h1 := waits_listed hm hc i oi hoi hdi f (htl i (by simpa using h3) f hf)
              have h2 := getD_false hp
              rcases Nat.lt_or_ge f D.size with h' | h'
              · simp [h'] at h1 h2; rw [h1] at h2; cases h2
              · simp [h'] at h2
          · exact .inr (.inr (.inl rfl))
        · exact .inr (.inl rfl)) Pend.of_set plI hS hb
      exact wpOp_chg (fun c a w h => (h : False).elim) (fun h => (NP.noOut h).elim) (wpOp_mono (fun a' w' h' => ih _ _ f a' w' (by simpa using hs) hleft (hc.add hi) hr2 h'.1 h'.2.2) hb2)
    by_cases his : i ∈ s
    · obtain ⟨s1, s2, rfl, hn⟩ := split_first s his
      refine hfin s1 s2 f hn (run_prefix s1 _ hr) (run_drop s1 s2 hs hi hn hr) (run_nodup _ hs hr) (run_left _ hr) ?_
      rw [← mark_mid]
      exact h
    · obtain ⟨s', f', hr', hn', h'⟩ := expose hi f s hr his h
      refine hfin s' [] f' hn' hr' (by rw [List.append_nil]; exact run_more s' hn' hr') ?_ ?_ ?_
      · rw [List.nodup_append]
        refine ⟨run_nodup _ hs hr', by simp, fun x hx y hy => ?_⟩
        rw [List.mem_singleton.1 hy]; rintro rfl; exact hn' hx
      · intro k hk
        rcases List.mem_append.1 hk with hk | hk
        · exact run_left _ hr' k hk
        · rw [List.mem_singleton.1 hk]; exact hi0
      · rw [List.append_nil, mark_set]
        exact h'

/-- S is shown behind operation i, but where i is one of the last -/
def Shown (tl : List Nat) (i : Nat) (S : World → Prop) (w : World) : Prop := tl.contains i = true ∨ S w
theorem Shown.same {tl : List Nat} {i : Nat} {S : World → Prop} {w : World} (h : S w) : Shown tl i S w := .inr h
theorem Shown.last {tl : List Nat} {i : Nat} {S : World → Prop} {w : World} (h : tl.contains i = true) : Shown tl i S w := .inl h
theorem Shown.none {tl : List Nat} {i : Nat} {w w0 : World} : Shown tl i (SameB [] w0) w := .inr (fun b hb => by cases hb)
/-- the tree: as in Txt.Tr; each run's first operation by itself -/
def wpTr (P : Program) (blocks fl tl : List Nat) (w0 : World) (l : List Oper) (Q : Exit → Act → World → Prop) : Tr → Act → World → Prop
  | .done, a, w => ((l.all fun o => plainAt o a.eval) = true ∧ LoadsIn blocks l a fl) ∧ Q .normal a w
  | .no, _, _ => True
  | .alt [] _ _, _, _ => False
  | .alt (i :: s) t o, a, w => wpList P l.toArray (SegPost (Shown tl i (SameB blocks w0)) (fun a w => wpList P l.toArray (RunPost (wpTr P blocks fl tl w0 l Q t) Q) (pick l s) a w) Q) (pick l [i]) a w ∧ wpTr P blocks fl tl w0 l Q o a w
/-- the run s is what comes from L on: like operations as they come -/
def runOK (P : Program) (lk : List Nat) (ops : Array Oper) : Array Bool → List Nat → Bool
  | _, [] => true
  | L, i :: s => first P lk ops L == some i && runOK P lk ops (L.setIfInBounds i true) s
mutual
def trOK (P : Program) (lk : List Nat) (ops : Array Oper) : Nat → Array Bool → Tr → Bool
  | 0, _, _ => false
  | f + 1, L, t => first P lk ops L == none && match t with
    | .done => Region.ready .any ops L == []
    | .no => false
    | .alt s t' o => (Tr.alt s t' o).heads == Region.ready .any ops L && altsOK P lk ops f L (.alt s t' o)
def altsOK (P : Program) (lk : List Nat) (ops : Array Oper) : Nat → Array Bool → Tr → Bool
  | 0, _, _ => false
  | _ + 1, _, .no => true
  | _ + 1, _, .done => false
  | f + 1, L, .alt s t o => (match s with
    | [] => false
    | i :: s => runOK P lk ops (L.setIfInBounds i true) s && trOK P lk ops f (mark (L.setIfInBounds i true) s) t) && altsOK P lk ops f L o
end
theorem list_S {l : List Oper} {K : Act → World → Prop} : ∀ (s : List Nat) (a : Act) (w : World), s.all (fun i => !mvY P tl l.toArray i) = true → wpList P l.toArray (RunPost K Q) (pick l s) a w → wpF P l.toArray S (mvY P tl l.toArray) K s a w
  | [], _, _, _, h => h
  | i :: s, a, w, hm, h => by
    simp only [List.all_cons, Bool.and_eq_true, Bool.not_eq_true'] at hm
    unfold wpF
    cases hi : l[i]? with
    | none =>
      have hp : pick l (i :: s) = pick l s := by simp [pick, hi]
      rw [hp] at h
      unfold wpOp
      have : l.toArray[i]? = none := by simpa using hi
      simp only [this]
      exact ⟨(fun h => by rw [hm.1] at h; cases h), list_S s a w hm.2 h⟩
    | some o =>
      have hp : pick l (i :: s) = o :: pick l s := by simp [pick, hi]
      rw [hp] at h
      have hk : l.toArray[i]? = some o := by simpa using hi
      have h1 : wpOp P l.toArray (RunPost K Q) i (wpList P l.toArray (RunPost K Q) (pick l s)) a w := by
        unfold wpOp; simp only [hk]; exact h
      exact wpOp_chg (fun c a w h => (h : False)) (fun ⟨a, w, h⟩ => (h : False).elim) (wpOp_mono (fun a' w' h' => ⟨fun h => (by rw [hm.1] at h; cases h), list_S s a' w' hm.2 h'⟩) h1)
theorem head_S {l : List Oper} {K : Act → World → Prop} {i : Nat} {a : Act} {w : World} (hi : i < l.length) (h : wpList P l.toArray (SegPost (Shown tl i S) K Q) (pick l [i]) a w) : wpOp P l.toArray NP i (fun a' w' => (mvY P tl l.toArray i = true → S w') ∧ K a' w') a w := by
  have hl : l[i]? = some l[i] := List.getElem?_eq_getElem hi
  have hp : pick l [i] = [l[i]] := by simp [pick, hl]
  rw [hp] at h
  have hk : l.toArray[i]? = some l[i] := by rw [List.getElem?_toArray]; exact hl
  have h1 : wpOp P l.toArray (SegPost (Shown tl i S) K Q) i (wpList P l.toArray (SegPost (Shown tl i S) K Q) []) a w := by
    unfold wpOp; simp only [hk]; exact h
  exact wpOp_chg (fun c a w h => (h : False)) (fun ⟨a, w, h⟩ => (h : False).elim) (wpOp_mono (fun a' w' h' => ⟨fun hm => (by
    rcases h'.1 with h | h
    · simp only [mvY, h, Bool.not_true, Bool.false_and] at hm; cases hm
    · exact h), h'.2⟩) h1)
theorem runOK_calm : ∀ (s : List Nat) (L : Array Bool), runOK P lk ops L s = true → s.all (fun i => !mvY P tl ops i) = true
  | [], _, _ => rfl
  | i :: s, L, h => by
    simp only [runOK, Bool.and_eq_true, beq_iff_eq] at h
    have hk : like P lk ops i = true := by simpa using List.find?_some h.1
    simp only [List.all_cons, runOK_calm s _ h.2, Bool.and_true, Bool.not_eq_true']
    cases ho : ops[i]? with
    | none => simp [mvY, ho]
    | some o =>
      simp only [like, ho, Bool.or_eq_true, Bool.and_eq_true] at hk
      exact mvY_none i o ho (by rcases hk with h | h <;> simp [h])
theorem run_B {Q' : Act → World → Prop} : ∀ (s : List Nat) (L : Array Bool) (n : Nat) (a : Act) (w : World), L.size = ops.size → (left ops L).length ≤ n → runOK P lk ops L s = true →
    (∀ n', (left ops (mark L s)).length ≤ n' → ∀ a w, N a w → wpB P lk tl ops S Q' n' (mark L s) a w) → wpF P ops S (mvY P tl ops) N s a w → wpB P lk tl ops S Q' n L a w
  | [], L, n, a, w, _, hn, _, hK, h => hK n hn a w h
  | i :: s, L, n, a, w, hs, hn, hr, hK, h => by
    simp only [runOK, Bool.and_eq_true, beq_iff_eq] at hr
    obtain ⟨hfc, hr⟩ := hr
    have hi : i ∈ Region.ready .any ops L := List.mem_of_find?_eq_some hfc
    have hlt := left_set hs hi
    cases n with
    | zero => omega
    | succ n =>
      simp only [wpB, hfc]
      unfold wpF at h
      exact wpOp_mono (fun a' w' h' => ⟨h'.1, run_B s (L.setIfInBounds i true) n a' w' (by simpa using hs) (by omega) hr hK h'.2⟩) h
def Leaf (blocks fl : List Nat) (l : List Oper) (Q : Exit → Act → World → Prop) : Act → World → Prop := fun a w => ((l.all fun o => plainAt o a.eval) = true ∧ LoadsIn blocks l a fl) ∧ Q .normal a w
mutual
theorem tr_B {l : List Oper} : ∀ (f : Nat) (L : Array Bool) (t : Tr) (n : Nat) (a : Act) (w : World), L.size = l.toArray.size → (left l.toArray L).length ≤ n → trOK P lk l.toArray f L t = true → wpTr P blocks fl tl w0 l Q t a w → wpB P lk tl l.toArray (SameB blocks w0) (Leaf blocks fl l Q) n L a w
  | 0, _, _, _, _, _, _, _, ht, _ => by simp [trOK] at ht
  | f + 1, L, .done, n, a, w, hs, hn, ht, h => by
    simp only [trOK, Bool.and_eq_true, beq_iff_eq] at ht
    obtain ⟨hfc, hr⟩ := ht
    unfold wpTr at h
    cases n with
    | zero => exact ⟨hr, h⟩
    | succ n =>
      simp only [wpB, hfc]
      exact ⟨fun _ => h, fun i hi => by rw [hr] at hi; cases hi⟩
  | f + 1, L, .no, _, _, _, _, _, ht, _ => by simp [trOK] at ht
  | f + 1, L, .alt s t o, n, a, w, hs, hn, ht, h => by
    simp only [trOK, Bool.and_eq_true, beq_iff_eq] at ht
    obtain ⟨hfc, hh, ha⟩ := ht
    have key := alts_B f L (.alt s t o) n a w hs hn ha h
    rw [hh] at key
    have hne : ∃ i, i ∈ Region.ready .any l.toArray L := by
      cases s with
      | nil => cases f <;> simp [altsOK] at ha
      | cons i s => exact ⟨i, by rw [← hh]; simp [Tr.heads]⟩
    obtain ⟨i0, hi0⟩ := hne
    have hlt := left_set hs hi0
    cases n with
    | zero => omega
    | succ n =>
      simp only [wpB, hfc]
      have h1 : Region.ready .any l.toArray L = [] → Leaf blocks fl l Q a w := fun e => by
        rw [e] at hi0; exact absurd hi0 List.not_mem_nil
      exact ⟨h1, fun i hi => key i hi hi n (by have := left_set hs hi; omega)⟩
theorem alts_B {l : List Oper} : ∀ (f : Nat) (L : Array Bool) (t : Tr) (n : Nat) (a : Act) (w : World), L.size = l.toArray.size → (left l.toArray L).length ≤ n → altsOK P lk l.toArray f L t = true → wpTr P blocks fl tl w0 l Q t a w →
    ∀ i ∈ t.heads, i ∈ Region.ready .any l.toArray L → ∀ n', (left l.toArray (L.setIfInBounds i true)).length ≤ n' → wpOp P l.toArray NP i (fun a' w' => (mvY P tl l.toArray i = true → SameB blocks w0 w') ∧ wpB P lk tl l.toArray (SameB blocks w0) (Leaf blocks fl l Q) n' (L.setIfInBounds i true) a' w') a w
  | 0, _, _, _, _, _, _, _, ht, _ => by simp [altsOK] at ht
  | f + 1, L, .done, _, _, _, _, _, ht, _ => by simp [altsOK] at ht
  | f + 1, L, .no, _, _, _, _, _, _, _ => by intro i hi; simp [Tr.heads] at hi
  | f + 1, L, .alt [] t o, _, _, _, _, _, ht, _ => by simp [altsOK] at ht
  | f + 1, L, .alt (j :: s) t o, n, a, w, hs, hn, ht, h => by
    simp only [altsOK, Bool.and_eq_true] at ht
    obtain ⟨⟨hr, htr⟩, ho⟩ := ht
    unfold wpTr at h
    obtain ⟨h1, h2⟩ := h
    intro i hi hir n' hn'
    simp only [Tr.heads, List.mem_cons] at hi
    rcases hi with rfl | hi
    · have hlt : i < l.length := by have := ready_lt hs hir; rw [hs] at this; simpa using this
      have hS := head_S hlt h1
      exact wpOp_mono (fun a' w' h' => ⟨h'.1, run_B s (L.setIfInBounds i true) n' a' w' (by simpa using hs) hn' hr (fun n'' hn'' a w hw => tr_B f _ t n'' a w (by rw [mark_size]; simpa using hs) hn'' htr hw) (list_S s a' w' (runOK_calm s _ hr) h'.2)⟩) hS
    · exact alts_B f L o n a w hs hn ho h2 i hi hir n' hn'
end
/-- **A region that draws its order, by a tree of orders**, where the loads fl read from the blocks, which nobody changes. -/
theorem wp_tree (blocks fl tl lk : List Nat) (s : List Nat) (t : Tr) {id : Nat} {l : List Oper} {a : Act} {w : World} (hm : P.follows .mixedOrders = true) (ht : altOK P fl tl lk l.toArray (Region.before l.toArray) = true)
    (hr : runOK P lk l.toArray (Array.replicate l.length false) s = true) (hT : trOK P lk l.toArray 100 (mark (Array.replicate l.length false) s) t = true)
    (hB : ∀ b ∈ blocks, ∃ c e f, w.heap[b]? = some (.cells c e f))
    (h : wpList P l.toArray (RunPost (wpTr P blocks fl tl w.drew l Q t) Q) (pick l s) a w.drew) : (Code.region id l.toArray true).wp P Q a w := by
  refine wp_region_any hm ?_
  have hS : SameB blocks w.drew w.drew := fun b hb => ⟨hB b hb, rfl⟩
  have hb : wpB P lk tl l.toArray (SameB blocks w.drew) (Leaf blocks fl l Q) l.length (Array.replicate l.length false) a w.drew :=
    run_B s _ _ _ _ (by simp) (Nat.le_trans (List.length_filter_le _ _) (by simp)) hr (fun n' hn' a w hw => tr_B 100 _ t n' a w (by rw [mark_size]; simp) hn' hT hw) (list_S s _ _ (runOK_calm s _ hr) h)
  refine wpAny_of_B (N := Leaf blocks fl l Q) (blocks := blocks) (w0 := w.drew) ht (fun a w h => ⟨fun k o hk => List.all_eq_true.1 h.1.1 o (by simpa using Array.mem_of_getElem? hk), fun k hk o ho => LoadsIn.get fl h.1.2 k hk o (by simpa using ho)⟩) (fun a w h => h.2) _ _ [] l.length _ _ (by simp) (Nat.le_trans (List.length_filter_le _ _) (by simp)) (fun k o ho hk => ?_) trivial (fun _ => hS) (by simpa [mark, wpF] using hb)
  exfalso
  rcases Nat.lt_or_ge k l.length with h' | h' <;> simp [h'] at hk
theorem wpTr_alt {l : List Oper} {i : Nat} {s : List Nat} {t o : Tr} {a : Act} {w : World} (h : wpList P l.toArray (SegPost (Shown tl i (SameB blocks w0)) (fun a w => wpList P l.toArray (RunPost (wpTr P blocks fl tl w0 l Q t) Q) (pick l s) a w) Q) (pick l [i]) a w) (k : wpTr P blocks fl tl w0 l Q o a w) : wpTr P blocks fl tl w0 l Q (.alt (i :: s) t o) a w := ⟨h, k⟩
theorem wpTr_no {l : List Oper} {a : Act} {w : World} : wpTr P blocks fl tl w0 l Q .no a w := trivial
theorem wpTr_done {l : List Oper} {a : Act} {w : World} (h1 : (l.all fun o => plainAt o a.eval) = true) (h2 : LoadsIn blocks l a fl) (h : Q .normal a w) : wpTr P blocks fl tl w0 l Q .done a w := ⟨⟨h1, h2⟩, h⟩
end Go.Txt.Ty
