/- Space: lists of entries that are sorted strictly: Map and Unmap as lists. -/
import Derived.Test.YtlomhelcphhinaaSm
namespace Go.Sp
open Go Go.RowKit Go.Bs

def Srt (l : List Ent) : Prop := l.Pairwise (fun a b => a.p < b.p)
theorem srt_eq : ∀ {a b : List Ent}, Srt a → Srt b → (∀ z, z ∈ a ↔ z ∈ b) → a = b
  | [], [], _, _, _ => rfl
  | [], y :: b, _, _, h => by have := (h y).2 (by simp); simp at this
  | x :: a, [], _, _, h => by have := (h x).1 (by simp); simp at this
  | x :: a, y :: b, ha, hb, h => by
    have ha' := List.pairwise_cons.1 ha
    have hb' := List.pairwise_cons.1 hb
    have hxy : x = y := by
      have h1 := (h x).1 (by simp)
      have h2 := (h y).2 (by simp)
      rcases List.mem_cons.1 h1 with e | e
      · exact e
      · rcases List.mem_cons.1 h2 with e2 | e2
        · exact e2.symm
        · have := ha'.1 y e2
          have := hb'.1 x e
          omega
    subst hxy
    congr 1
    refine srt_eq ha'.2 hb'.2 fun z => ⟨fun hz => ?_, fun hz => ?_⟩
    · rcases List.mem_cons.1 ((h z).1 (List.mem_cons_of_mem _ hz)) with e | e
      · subst e; have := ha'.1 z hz; omega
      · exact e
    · rcases List.mem_cons.1 ((h z).2 (List.mem_cons_of_mem _ hz)) with e | e
      · subst e; have := hb'.1 z hz; omega
      · exact e
theorem ent_mem {l : List Ent} {z : Ent} : z ∈ l ↔ ∃ k, k < l.length ∧ ent l k = z := by
  rw [List.mem_iff_getElem]
  constructor
  · rintro ⟨k, hk, h⟩; exact ⟨k, hk, by simp [ent, hk, h]⟩
  · rintro ⟨k, hk, h⟩; exact ⟨k, hk, by simpa [ent, hk] using h⟩
theorem srt_of {l : List Ent} (h : ∀ i j, i < j → j < l.length → (ent l i).p < (ent l j).p) : Srt l := by
  unfold Srt
  rw [List.pairwise_iff_getElem]
  intro i j hi hj hij
  have := h i j hij hj
  simpa [ent, hi, hj] using this
theorem srt_at {l : List Ent} (h : Srt l) {i j : Nat} (hij : i < j) (hj : j < l.length) : (ent l i).p < (ent l j).p := by
  unfold Srt at h
  rw [List.pairwise_iff_getElem] at h
  have := h i j (by omega) hj hij
  have hi : i < l.length := by omega
  simpa [ent, hi, hj] using this
theorem valid_srt {l : List Ent} (h : validB l = true) : Srt l := srt_of fun i j hij hj => valid_lt h j i hij hj
def Ent.ok (x : Ent) : Bool := properB x.p x.f
theorem valid_ok {l : List Ent} (h : validB l = true) : ∀ x ∈ l, x.ok = true := by
  intro x hx
  obtain ⟨k, hk, rfl⟩ := ent_mem.1 hx
  have := validB_at h hk
  simp only [okAt, Bool.and_eq_true] at this
  exact this.1
theorem valid_of {l : List Ent} (h : Srt l) (hok : ∀ x ∈ l, x.ok = true) : validB l = true :=
  validB_true fun k hk => by
    have h1 := hok _ (ent_mem.2 ⟨k, hk, rfl⟩)
    unfold okAt
    rw [show properB (ent l k).p (ent l k).f = true from h1]
    by_cases h0 : k = 0
    · simp [h0]
    · have := srt_at h (show k - 1 < k by omega) hk
      simp [this]
theorem srt_append {a b : List Ent} (ha : Srt a) (hb : Srt b) (h : ∀ x ∈ a, ∀ y ∈ b, x.p < y.p) : Srt (a ++ b) :=
  List.pairwise_append.2 ⟨ha, hb, h⟩
theorem srt_filter {l : List Ent} (h : Srt l) (f : Ent → Bool) : Srt (l.filter f) := List.Pairwise.filter f h
theorem srt_uniq {l : List Ent} (h : Srt l) {x y : Ent} (hx : x ∈ l) (hy : y ∈ l) (e : x.p = y.p) : x = y := by
  obtain ⟨i, hi, rfl⟩ := ent_mem.1 hx
  obtain ⟨j, hj, rfl⟩ := ent_mem.1 hy
  rcases Nat.lt_trichotomy i j with h' | h' | h'
  · have := srt_at h h' hj; omega
  · rw [h']
  · have := srt_at h h' hi; omega

/-- the entries with x, which replaces that of the same page -/
def insE (l : List Ent) (x : Ent) : List Ent := l.filter (fun z => z.p < x.p) ++ x :: l.filter (fun z => x.p < z.p)
theorem ins_mem {l : List Ent} {x z : Ent} : z ∈ insE l x ↔ z = x ∨ (z ∈ l ∧ z.p ≠ x.p) := by
  simp only [insE, List.mem_append, List.mem_filter, List.mem_cons, decide_eq_true_eq]
  constructor
  · rintro (⟨h, h'⟩ | h | ⟨h, h'⟩)
    · exact .inr ⟨h, by omega⟩
    · exact .inl h
    · exact .inr ⟨h, by omega⟩
  · rintro (h | ⟨h, h'⟩)
    · exact .inr (.inl h)
    · rcases Int.lt_or_gt_of_ne h' with h1 | h1
      · exact .inl ⟨h, h1⟩
      · exact .inr (.inr ⟨h, h1⟩)
theorem ins_srt {l : List Ent} (h : Srt l) (x : Ent) : Srt (insE l x) := by
  refine srt_append (srt_filter h _) (List.pairwise_cons.2 ⟨?_, srt_filter h _⟩) ?_
  · intro y hy; have := (List.mem_filter.1 hy).2; simpa using this
  · intro a ha y hy
    have h1 := (List.mem_filter.1 ha).2
    simp only [decide_eq_true_eq] at h1
    rcases List.mem_cons.1 hy with rfl | hy
    · exact h1
    · have h2 := (List.mem_filter.1 hy).2
      simp only [decide_eq_true_eq] at h2
      omega
theorem ins_valid {l : List Ent} (h : validB l = true) {x : Ent} (hx : x.ok = true) : validB (insE l x) = true :=
  valid_of (ins_srt (valid_srt h) x) fun z hz => by
    rcases ins_mem.1 hz with rfl | ⟨hz, _⟩
    · exact hx
    · exact valid_ok h z hz
theorem ins_swap {l : List Ent} (h : Srt l) {x y : Ent} (hne : x.p ≠ y.p) : insE (insE l x) y = insE (insE l y) x :=
  srt_eq (ins_srt (ins_srt h x) y) (ins_srt (ins_srt h y) x) fun z => by
    simp only [ins_mem]
    constructor
    · rintro (rfl | ⟨rfl | ⟨h1, h2⟩, h3⟩)
      · exact .inr ⟨.inl rfl, fun e => hne e.symm⟩
      · exact .inl rfl
      · exact .inr ⟨.inr ⟨h1, h3⟩, h2⟩
    · rintro (rfl | ⟨rfl | ⟨h1, h2⟩, h3⟩)
      · exact .inr ⟨.inl rfl, hne⟩
      · exact .inl rfl
      · exact .inr ⟨.inr ⟨h1, h3⟩, h2⟩
theorem ins_len {l : List Ent} {x : Ent} (h : Srt l) : (insE l x).length ≤ l.length + 1 := by
  have h1 : (l.filter (fun z => decide (z.p < x.p))).length + (l.filter (fun z => decide (x.p < z.p))).length ≤ l.length := by
    clear h
    induction l with
    | nil => simp
    | cons a l ih =>
      simp only [List.filter_cons]
      split <;> split <;> simp_all <;> omega
  simp only [insE, List.length_append, List.length_cons]; omega
theorem found_take {l : List Ent} {x : Ent} {i : Nat} (hi : i ≤ l.length) (h1 : ∀ k, k < i → (ent l k).p < x.p) (h2 : ∀ k, i ≤ k → k < l.length → x.p ≤ (ent l k).p) (h3 : ∀ k, k < l.length → (ent l k).p ≠ x.p) :
    insE l x = l.take i ++ x :: l.drop i := by
  have hl : l.filter (fun z => decide (z.p < x.p)) = l.take i := by
    conv => lhs; rw [← List.take_append_drop i l]
    rw [List.filter_append]
    have e1 : (l.take i).filter (fun z => decide (z.p < x.p)) = l.take i := List.filter_eq_self.2 fun z hz => by
      obtain ⟨k, hk, rfl⟩ := List.mem_iff_getElem.1 hz
      have hk2 := hk; rw [List.length_take] at hk2; have hk' : k < i ∧ k < l.length := by omega
      have := h1 k hk'.1
      simpa [ent, hk'.2] using this
    have e2 : (l.drop i).filter (fun z => decide (z.p < x.p)) = [] := List.filter_eq_nil_iff.2 fun z hz => by
      obtain ⟨k, hk, rfl⟩ := List.mem_iff_getElem.1 hz
      have hk' : i + k < l.length := by simp at hk; omega
      have := h2 (i + k) (by omega) hk'
      simpa [ent, hk'] using this
    rw [e1, e2, List.append_nil]
  have hr : l.filter (fun z => decide (x.p < z.p)) = l.drop i := by
    conv => lhs; rw [← List.take_append_drop i l]
    rw [List.filter_append]
    have e1 : (l.take i).filter (fun z => decide (x.p < z.p)) = [] := List.filter_eq_nil_iff.2 fun z hz => by
      obtain ⟨k, hk, rfl⟩ := List.mem_iff_getElem.1 hz
      have hk2 := hk; rw [List.length_take] at hk2; have hk' : k < i ∧ k < l.length := by omega
      have := h1 k hk'.1
      simp [ent, hk'.2] at this
      simp; omega
    have e2 : (l.drop i).filter (fun z => decide (x.p < z.p)) = l.drop i := List.filter_eq_self.2 fun z hz => by
      obtain ⟨k, hk, rfl⟩ := List.mem_iff_getElem.1 hz
      have hk' : i + k < l.length := by simp at hk; omega
      have h4 := h2 (i + k) (by omega) hk'
      have h5 := h3 (i + k) hk'
      simp [ent, hk'] at h4 h5
      simp; omega
    rw [e1, e2, List.nil_append]
  unfold insE
  rw [hl, hr]
theorem found_set {l : List Ent} (h : Srt l) {x : Ent} {i : Nat} (hi : i < l.length) (he : (ent l i).p = x.p) : insE l x = l.set i x := by
  refine srt_eq (ins_srt h x) ?_ fun z => ?_
  · refine srt_of fun a b hab hb => ?_
    rw [List.length_set] at hb
    have := srt_at h hab hb
    have e : ∀ k, k < l.length → (ent (l.set i x) k).p = (ent l k).p := fun k hk => by
      by_cases hki : k = i
      · subst hki; simp [ent, hi]; simp [ent, hi] at he; exact he.symm
      · simp [ent, hk, List.getElem?_set, Ne.symm hki]
    rw [e a (by omega), e b hb]; exact this
  · rw [ins_mem]
    constructor
    · rintro (rfl | ⟨hz, hne⟩)
      · exact List.mem_iff_getElem.2 ⟨i, by simpa using hi, by simp⟩
      · obtain ⟨k, hk, rfl⟩ := ent_mem.1 hz
        have hki : k ≠ i := fun e => hne (by rw [e]; exact he)
        exact List.mem_iff_getElem.2 ⟨k, by simpa using hk, by simp [ent, hk, List.getElem_set, Ne.symm hki]⟩
    · intro hz
      obtain ⟨k, hk, rfl⟩ := List.mem_iff_getElem.1 hz
      have hk' : k < l.length := by simpa using hk
      by_cases hki : k = i
      · subst hki; simp
      · rw [List.getElem_set_ne (Ne.symm hki)]
        refine .inr ⟨List.getElem_mem _, ?_⟩
        intro e
        have e2 : (ent l k).p = (ent l i).p := by rw [he]; simp [ent, hk']; exact e
        rcases Nat.lt_or_gt_of_ne hki with h' | h'
        · have := srt_at h h' hi; omega
        · have := srt_at h h' hk'; omega
/-- Map -/
def mapE (l : List Ent) (x : Ent) : List Ent × Int := if validB l then (if x.ok then (insE l x, 0) else ([], 2)) else ([], 1)
end Go.Sp
