/- Ledger: plain facts. No program in sight. -/
import Derived.Test.YtjlfpofgiicmcaaRe
namespace Go.Lg
open Go Go.RowKit Go.Bs Go.Cl Go.Rw
structure Lt where
  t : Int
  q : Int
def encL (x : Lt) : List Value := [.int .i64 x.t, .int .i64 x.q]
theorem encL_len (x : Lt) : (encL x).length = 2 := rfl
def ltAt (l : List Lt) (k : Nat) : Lt := l.getD k ⟨0, 0⟩
theorem lt_get {l : List Lt} {i : Nat} (h : i < l.length) : l[i]? = some (ltAt l i) := by simp [ltAt, h]
theorem encL_one (l : List Lt) : ∀ u ∈ l.flatMap encL, u.oneCell' = true := by
  intro u hu
  obtain ⟨x, _, h⟩ := List.mem_flatMap.1 hu
  simp [encL] at h
  rcases h with rfl | rfl <;> rfl
/-- v reads as the ledger l -/
def SlL (w : World) (v : Value) (l : List Lt) : Prop := Raw [] 2 w v l.length (l.flatMap encL)
theorem SlL.below {w w' : World} {v : Value} {l : List Lt} (h : SlL w v l) (hb : Below w.heap.size w w') : SlL w' v l := Raw.below h hb
theorem SlL.of_own {w : World} {base e n : Nat} {v : Value} {l : List Lt} (h : w.ownsRow base e 2 v n (l.flatMap encL)) : SlL w v l := by
  have hn : n = l.length := by have := h.1; rw [flat_length encL encL_len] at this; omega
  subst hn
  exact Raw.of_own h (encL_one l) (fun f hf => by cases hf)
theorem SlL.elem {w : World} {a : Option Addr} {n c : Nat} {l : List Lt} (h : SlL w (.slice a n c) l) {i : Nat} (hi : i < l.length) :
    ∃ b off, a = some ⟨b, off, none⟩ ∧ b < w.heap.size ∧ w.cell? ⟨b, off + i * 2, none⟩ = some (.int .i64 (ltAt l i).t) ∧ w.cell? ⟨b, off + i * 2 + 1, none⟩ = some (.int .i64 (ltAt l i).q) := by
  have hget := lt_get hi
  rcases Raw.cases h with ⟨h0, _⟩ | ⟨_, b, off, cap, hv, _, _, hb, _, hc⟩
  · omega
  · cases hv
    exact ⟨b, off, rfl, hb, hc _ _ (flat_get encL encL_len l i 0 _ hget (by omega)), hc _ _ (flat_get encL encL_len l i 1 _ hget (by omega))⟩
theorem lt_mem {l : List Lt} {z : Lt} : z ∈ l ↔ ∃ k, k < l.length ∧ ltAt l k = z := by
  rw [List.mem_iff_getElem]
  constructor
  · rintro ⟨k, hk, h⟩; exact ⟨k, hk, by simp [ltAt, hk, h]⟩
  · rintro ⟨k, hk, h⟩; exact ⟨k, hk, by simpa [ltAt, hk] using h⟩

def propL (t : Int) : Bool := decide (0 ≤ t) && decide (t < 32)
def okL (l : List Lt) (k : Nat) : Bool := propL (ltAt l k).t && decide (1 ≤ (ltAt l k).q) && (decide (k = 0) || decide ((ltAt l (k - 1)).t < (ltAt l k).t))
def validL (l : List Lt) : Bool := (List.range l.length).all (okL l)
theorem validL_false {l : List Lt} {k : Nat} (hk : k < l.length) (h : okL l k = false) : validL l = false := by
  unfold validL
  rw [List.all_eq_false]
  exact ⟨k, List.mem_range.2 hk, by simp [h]⟩
theorem validL_true {l : List Lt} (h : ∀ k, k < l.length → okL l k = true) : validL l = true :=
  List.all_eq_true.2 fun k hk => h k (List.mem_range.1 hk)
theorem validL_at {l : List Lt} (h : validL l = true) {k : Nat} (hk : k < l.length) : okL l k = true := List.all_eq_true.1 h k (List.mem_range.2 hk)
theorem okL_iff {l : List Lt} {k : Nat} : okL l k = true ↔ 0 ≤ (ltAt l k).t ∧ (ltAt l k).t < 32 ∧ 1 ≤ (ltAt l k).q ∧ (k = 0 ∨ (ltAt l (k - 1)).t < (ltAt l k).t) := by simp [okL, propL, and_assoc]
def Srt (l : List Lt) : Prop := l.Pairwise (fun a b => a.t < b.t)
theorem valid_lt {l : List Lt} (h : validL l = true) : ∀ (j i : Nat), i < j → j < l.length → (ltAt l i).t < (ltAt l j).t
  | 0, i, hij, _ => absurd hij (Nat.not_lt_zero _)
  | j + 1, i, hij, hj => by
    have h1 := (okL_iff.1 (validL_at h hj)).2.2.2
    rw [Nat.add_sub_cancel] at h1
    have h1 : (ltAt l j).t < (ltAt l (j + 1)).t := by rcases h1 with h1 | h1; · omega
                                                      · exact h1
    by_cases e : i = j
    · subst e; exact h1
    · have := valid_lt h j i (by omega) (by omega); omega
theorem srt_of {l : List Lt} (h : ∀ i j, i < j → j < l.length → (ltAt l i).t < (ltAt l j).t) : Srt l := by
  unfold Srt
  rw [List.pairwise_iff_getElem]
  intro i j hi hj hij
  have := h i j hij hj
  simpa [ltAt, hi, hj] using this
theorem srt_at {l : List Lt} (h : Srt l) {i j : Nat} (hij : i < j) (hj : j < l.length) : (ltAt l i).t < (ltAt l j).t := by
  unfold Srt at h
  rw [List.pairwise_iff_getElem] at h
  have := h i j (by omega) hj hij
  have hi : i < l.length := by omega
  simpa [ltAt, hi, hj] using this
theorem valid_srt {l : List Lt} (h : validL l = true) : Srt l := srt_of fun i j hij hj => valid_lt h j i hij hj
def okE (x : Lt) : Bool := propL x.t && decide (1 ≤ x.q)
theorem valid_ok {l : List Lt} (h : validL l = true) : ∀ x ∈ l, okE x = true := by
  intro x hx
  obtain ⟨k, hk, rfl⟩ := lt_mem.1 hx
  have := validL_at h hk
  simp only [okL, Bool.and_eq_true] at this
  simp only [okE, Bool.and_eq_true]
  exact this.1
theorem valid_of {l : List Lt} (h : Srt l) (hok : ∀ x ∈ l, okE x = true) : validL l = true :=
  validL_true fun k hk => by
    have h1 := hok _ (lt_mem.2 ⟨k, hk, rfl⟩)
    simp only [okE, Bool.and_eq_true] at h1
    unfold okL
    rw [h1.1, h1.2]
    by_cases h0 : k = 0
    · simp [h0]
    · have := srt_at h (show k - 1 < k by omega) hk
      simp [this]
theorem srt_eq : ∀ {a b : List Lt}, Srt a → Srt b → (∀ z, z ∈ a ↔ z ∈ b) → a = b
  | [], [], _, _, _ => rfl
  | [], y :: b, _, _, h => by have := (h y).2 (by simp); simp at this
  | x :: a, [], _, _, h => by have := (h x).1 (by simp); simp at this
  | x :: a, y :: b, ha, hb, h => by
    have ha' := List.pairwise_cons.1 ha
    have hb' := List.pairwise_cons.1 hb
    have hxy : x = y := by
      have h1 := (h x).1 (by simp)
      have h2 := (h y).2 (by simp)
      rcases List.mem_cons.1 h1 with e | e
      · exact e
      · rcases List.mem_cons.1 h2 with e2 | e2
        · exact e2.symm
        · have := ha'.1 y e2
          have := hb'.1 x e
          omega
    subst hxy
    congr 1
    refine srt_eq ha'.2 hb'.2 fun z => ⟨fun hz => ?_, fun hz => ?_⟩
    · rcases List.mem_cons.1 ((h z).1 (List.mem_cons_of_mem _ hz)) with e | e
      · subst e; have := ha'.1 z hz; omega
      · exact e
    · rcases List.mem_cons.1 ((h z).2 (List.mem_cons_of_mem _ hz)) with e | e
      · subst e; have := hb'.1 z hz; omega
      · exact e
theorem srt_append {a b : List Lt} (ha : Srt a) (hb : Srt b) (h : ∀ x ∈ a, ∀ y ∈ b, x.t < y.t) : Srt (a ++ b) := List.pairwise_append.2 ⟨ha, hb, h⟩
theorem srt_filter {l : List Lt} (h : Srt l) (f : Lt → Bool) : Srt (l.filter f) := List.Pairwise.filter f h

/-- the last number of a task -/
def seenL (l : List Lt) (t : Int) : Int := match l.find? (fun x => x.t == t) with | some x => x.q | none => 0
theorem seen_none {l : List Lt} {t : Int} (h : ∀ k, k < l.length → (ltAt l k).t ≠ t) : seenL l t = 0 := by
  unfold seenL
  rw [List.find?_eq_none.2 fun x hx => by
    obtain ⟨k, hk, rfl⟩ := lt_mem.1 hx
    simpa using h k hk]
theorem find_first : ∀ {l : List Lt} {t : Int} {i : Nat}, i < l.length → (∀ k, k < i → (ltAt l k).t ≠ t) → (ltAt l i).t = t → l.find? (fun x => x.t == t) = some (ltAt l i)
  | [], _, i, hi, _, _ => by simp at hi
  | x :: l, t, 0, _, _, h => by
    have h' : x.t = t := h
    simp [List.find?_cons, h', ltAt]
  | x :: l, t, i + 1, hi, h0, h => by
    have hx : x.t ≠ t := h0 0 (by omega)
    have hx' : (x.t == t) = false := by simpa using hx
    rw [List.find?_cons, hx']
    exact find_first (i := i) (by simpa using hi) (fun k hk => h0 (k + 1) (by omega)) h
theorem seen_first {l : List Lt} {t : Int} {i : Nat} (hi : i < l.length) (h0 : ∀ k, k < i → (ltAt l k).t ≠ t) (h : (ltAt l i).t = t) : seenL l t = (ltAt l i).q := by
  unfold seenL; rw [find_first hi h0 h]
/-- the ledger with another number for a task -/
def putL (l : List Lt) (x : Lt) : List Lt := l.filter (fun z => z.t < x.t) ++ x :: l.filter (fun z => x.t < z.t)
theorem put_mem {l : List Lt} {x z : Lt} : z ∈ putL l x ↔ z = x ∨ (z ∈ l ∧ z.t ≠ x.t) := by
  simp only [putL, List.mem_append, List.mem_filter, List.mem_cons, decide_eq_true_eq]
  constructor
  · rintro (⟨h, h'⟩ | h | ⟨h, h'⟩)
    · exact .inr ⟨h, by omega⟩
    · exact .inl h
    · exact .inr ⟨h, by omega⟩
  · rintro (h | ⟨h, h'⟩)
    · exact .inr (.inl h)
    · rcases Int.lt_or_gt_of_ne h' with h1 | h1
      · exact .inl ⟨h, h1⟩
      · exact .inr (.inr ⟨h, h1⟩)
theorem put_srt {l : List Lt} (h : Srt l) (x : Lt) : Srt (putL l x) := by
  refine srt_append (srt_filter h _) (List.pairwise_cons.2 ⟨?_, srt_filter h _⟩) ?_
  · intro y hy; have := (List.mem_filter.1 hy).2; simpa using this
  · intro a ha y hy
    have h1 := (List.mem_filter.1 ha).2
    simp only [decide_eq_true_eq] at h1
    rcases List.mem_cons.1 hy with rfl | hy
    · exact h1
    · have h2 := (List.mem_filter.1 hy).2
      simp only [decide_eq_true_eq] at h2
      omega
theorem put_valid {l : List Lt} (h : validL l = true) {x : Lt} (hx : okE x = true) : validL (putL l x) = true :=
  valid_of (put_srt (valid_srt h) x) fun z hz => by
    rcases put_mem.1 hz with rfl | ⟨hz, _⟩
    · exact hx
    · exact valid_ok h z hz
theorem put_len (l : List Lt) (x : Lt) (h : Srt l) : (putL l x).length ≤ l.length + 1 := by
  unfold putL
  simp only [List.length_append, List.length_cons]
  have : (l.filter (fun z => z.t < x.t)).length + (l.filter (fun z => x.t < z.t)).length ≤ l.length := by
    clear h
    induction l with
    | nil => simp
    | cons a l ih =>
      simp only [List.filter_cons, List.length_cons]
      by_cases h1 : a.t < x.t
      · have h2 : ¬ x.t < a.t := by omega
        simp [h1, h2]; omega
      · by_cases h2 : x.t < a.t
        · simp [h1, h2]; omega
        · simp [h1, h2]; omega
  omega
theorem seen_mem {l : List Lt} (h : Srt l) {x : Lt} (hx : x ∈ l) : seenL l x.t = x.q := by
  obtain ⟨k, hk, rfl⟩ := lt_mem.1 hx
  exact seen_first hk (fun j hj => by have := srt_at h hj hk; omega) rfl
theorem seen_not {l : List Lt} {t : Int} (h : ∀ x ∈ l, x.t ≠ t) : seenL l t = 0 := seen_none fun k hk => h _ (lt_mem.2 ⟨k, hk, rfl⟩)
theorem seen_put {l : List Lt} (h : Srt l) (x : Lt) (t : Int) : seenL (putL l x) t = if t = x.t then x.q else seenL l t := by
  have hs := put_srt h x
  by_cases e : t = x.t
  · rw [if_pos e, e]; exact seen_mem hs (put_mem.2 (.inl rfl))
  · rw [if_neg e]
    by_cases hex : ∃ z ∈ l, z.t = t
    · obtain ⟨z, hz, rfl⟩ := hex
      rw [seen_mem h hz, seen_mem hs (put_mem.2 (.inr ⟨hz, e⟩))]
    · rw [seen_not (fun z hz hzt => hex ⟨z, hz, hzt⟩), seen_not fun z hz hzt => by
        rcases put_mem.1 hz with rfl | ⟨hz, _⟩
        · exact e hzt.symm
        · exact hex ⟨z, hz, hzt⟩]
theorem seen_pos {l : List Lt} (h : validL l = true) (t : Int) : 0 ≤ seenL l t := by
  unfold seenL
  cases hf : l.find? (fun x => x.t == t) with
  | none => simp
  | some x =>
    have := valid_ok h x (List.mem_of_find?_eq_some hf)
    simp [okE] at this
    simp; omega
/-- the ledger behind a message, its kind, the error -/
def seeL (l : List Lt) (t s : Int) : List Lt × Int × Int :=
  if validL l && propL t then
    (if 1 ≤ s ∧ s ≤ seenL l t then (l, 2, 0) else if s < 1 ∨ s - 1 ≠ seenL l t then (l, 3, 0) else (putL l ⟨t, s⟩, 1, 0))
  else ([], 0, 1)
end Go.Lg
