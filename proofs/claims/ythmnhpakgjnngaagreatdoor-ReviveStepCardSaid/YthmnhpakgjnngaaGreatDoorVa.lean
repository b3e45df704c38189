/- Revive: plain: histories, states, effects -/
import Derived.Test.YthmnhpakgjnngaaGreatDoorDe
namespace Go.Rv
open Go Go.RowKit Go.Bs Go.Cl Go.Rw Go.Dt
structure Hs where
  t : Int
  n : Int
  c : Int
def encH (x : Hs) : List Value := [.int .i64 x.t, .int .i64 x.n, .int .i64 x.c]
theorem encH_len (x : Hs) : (encH x).length = 3 := rfl
def hsAt (l : List Hs) (k : Nat) : Hs := l.getD k ⟨0, 0, 0⟩
theorem hs_get {l : List Hs} {i : Nat} (h : i < l.length) : l[i]? = some (hsAt l i) := by simp [hsAt, h]
theorem encH_one (l : List Hs) : ∀ u ∈ l.flatMap encH, u.oneCell' = true := by
  intro u hu
  obtain ⟨x, _, h⟩ := List.mem_flatMap.1 hu
  simp [encH] at h
  rcases h with rfl | rfl | rfl <;> rfl
/-- v reads as the histories l -/
def SlH (w : World) (v : Value) (l : List Hs) : Prop := Raw [] 3 w v l.length (l.flatMap encH)
theorem SlH.below {w w' : World} {v : Value} {l : List Hs} (h : SlH w v l) (hb : Below w.heap.size w w') : SlH w' v l := Raw.below h hb
theorem SlH.of_own {w : World} {base e n : Nat} {v : Value} {l : List Hs} (h : w.ownsRow base e 3 v n (l.flatMap encH)) : SlH w v l := by
  have hn : n = l.length := by have := h.1; rw [flat_length encH encH_len] at this; omega
  subst hn
  exact Raw.of_own h (encH_one l) (fun f hf => by cases hf)
theorem SlH.elem {w : World} {a : Option Addr} {n c : Nat} {l : List Hs} (h : SlH w (.slice a n c) l) {i : Nat} (hi : i < l.length) :
    ∃ b off, a = some ⟨b, off, none⟩ ∧ b < w.heap.size ∧ w.cell? ⟨b, off + i * 3, none⟩ = some (.int .i64 (hsAt l i).t) ∧ w.cell? ⟨b, off + i * 3 + 1, none⟩ = some (.int .i64 (hsAt l i).n) ∧ w.cell? ⟨b, off + i * 3 + 2, none⟩ = some (.int .i64 (hsAt l i).c) := by
  have hget := hs_get hi
  rcases Raw.cases h with ⟨h0, _⟩ | ⟨_, b, off, cap, hv, _, _, hb, _, hc⟩
  · omega
  · cases hv
    exact ⟨b, off, rfl, hb, hc _ _ (flat_get encH encH_len l i 0 _ hget (by omega)), hc _ _ (flat_get encH encH_len l i 1 _ hget (by omega)), hc _ _ (flat_get encH encH_len l i 2 _ hget (by omega))⟩
theorem hs_mem {l : List Hs} {z : Hs} : z ∈ l ↔ ∃ k, k < l.length ∧ hsAt l k = z := by
  rw [List.mem_iff_getElem]
  constructor
  · rintro ⟨k, hk, h⟩; exact ⟨k, hk, by simp [hsAt, hk, h]⟩
  · rintro ⟨k, hk, h⟩; exact ⟨k, hk, by simpa [hsAt, hk] using h⟩

def cmpt (t : Int) : Bool := decide (2 ≤ t) && decide (t ≤ 10)
def okE (x : Hs) : Bool := cmpt x.t && decide (1 ≤ x.n) && decide (x.n ≤ 1000000000) && decide (1 ≤ x.c) && decide (x.c ≤ 7)
def okH (l : List Hs) (k : Nat) : Bool := okE (hsAt l k) && (decide (k = 0) || decide ((hsAt l (k - 1)).t < (hsAt l k).t))
def validH (l : List Hs) : Bool := (List.range l.length).all (okH l)
theorem validH_false {l : List Hs} {k : Nat} (hk : k < l.length) (h : okH l k = false) : validH l = false := by
  unfold validH
  rw [List.all_eq_false]
  exact ⟨k, List.mem_range.2 hk, by simp [h]⟩
theorem validH_true {l : List Hs} (h : ∀ k, k < l.length → okH l k = true) : validH l = true :=
  List.all_eq_true.2 fun k hk => h k (List.mem_range.1 hk)
theorem validH_at {l : List Hs} (h : validH l = true) {k : Nat} (hk : k < l.length) : okH l k = true := List.all_eq_true.1 h k (List.mem_range.2 hk)
theorem okE_iff {x : Hs} : okE x = true ↔ 2 ≤ x.t ∧ x.t ≤ 10 ∧ 1 ≤ x.n ∧ x.n ≤ 1000000000 ∧ 1 ≤ x.c ∧ x.c ≤ 7 := by simp [okE, cmpt, and_assoc]
theorem okH_iff {l : List Hs} {k : Nat} : okH l k = true ↔ okE (hsAt l k) = true ∧ (k = 0 ∨ (hsAt l (k - 1)).t < (hsAt l k).t) := by simp [okH]
def Srt (l : List Hs) : Prop := l.Pairwise (fun a b => a.t < b.t)
theorem validH_lt {l : List Hs} (h : validH l = true) : ∀ (j i : Nat), i < j → j < l.length → (hsAt l i).t < (hsAt l j).t
  | 0, i, hij, _ => absurd hij (Nat.not_lt_zero _)
  | j + 1, i, hij, hj => by
    have h1 := (okH_iff.1 (validH_at h hj)).2
    rw [Nat.add_sub_cancel] at h1
    have h1 : (hsAt l j).t < (hsAt l (j + 1)).t := by rcases h1 with h1 | h1; · omega
                                                      · exact h1
    by_cases e : i = j
    · subst e; exact h1
    · have := validH_lt h j i (by omega) (by omega); omega
theorem srt_of {l : List Hs} (h : ∀ i j, i < j → j < l.length → (hsAt l i).t < (hsAt l j).t) : Srt l := by
  unfold Srt
  rw [List.pairwise_iff_getElem]
  intro i j hi hj hij
  have := h i j hij hj
  simpa [hsAt, hi, hj] using this
theorem srt_at {l : List Hs} (h : Srt l) {i j : Nat} (hij : i < j) (hj : j < l.length) : (hsAt l i).t < (hsAt l j).t := by
  unfold Srt at h
  rw [List.pairwise_iff_getElem] at h
  have := h i j (by omega) hj hij
  have hi : i < l.length := by omega
  simpa [hsAt, hi, hj] using this
theorem validH_srt {l : List Hs} (h : validH l = true) : Srt l := srt_of fun i j hij hj => validH_lt h j i hij hj
theorem validH_ok {l : List Hs} (h : validH l = true) : ∀ x ∈ l, okE x = true := by
  intro x hx
  obtain ⟨k, hk, rfl⟩ := hs_mem.1 hx
  exact (okH_iff.1 (validH_at h hk)).1
theorem validH_of {l : List Hs} (h : Srt l) (hok : ∀ x ∈ l, okE x = true) : validH l = true :=
  validH_true fun k hk => okH_iff.2 ⟨hok _ (hs_mem.2 ⟨k, hk, rfl⟩), by
    by_cases h0 : k = 0
    · exact .inl h0
    · exact .inr (srt_at h (show k - 1 < k by omega) hk)⟩
theorem srt_eq : ∀ {a b : List Hs}, Srt a → Srt b → (∀ z, z ∈ a ↔ z ∈ b) → a = b
  | [], [], _, _, _ => rfl
  | [], y :: b, _, _, h => by have := (h y).2 (by simp); simp at this
  | x :: a, [], _, _, h => by have := (h x).1 (by simp); simp at this
  | x :: a, y :: b, ha, hb, h => by
    have ha' := List.pairwise_cons.1 ha
    have hb' := List.pairwise_cons.1 hb
    have hxy : x = y := by
      have h1 := (h x).1 (by simp)
      have h2 := (h y).2 (by simp)
      rcases List.mem_cons.1 h1 with e | e
      · exact e
      · rcases List.mem_cons.1 h2 with e2 | e2
        · exact e2.symm
        · have := ha'.1 y e2
          have := hb'.1 x e
          omega
    subst hxy
    congr 1
    refine srt_eq ha'.2 hb'.2 fun z => ⟨fun hz => ?_, fun hz => ?_⟩
    · rcases List.mem_cons.1 ((h z).1 (List.mem_cons_of_mem _ hz)) with e | e
      · subst e; have := ha'.1 z hz; omega
      · exact e
    · rcases List.mem_cons.1 ((h z).2 (List.mem_cons_of_mem _ hz)) with e | e
      · subst e; have := hb'.1 z hz; omega
      · exact e
theorem srt_append {a b : List Hs} (ha : Srt a) (hb : Srt b) (h : ∀ x ∈ a, ∀ y ∈ b, x.t < y.t) : Srt (a ++ b) := List.pairwise_append.2 ⟨ha, hb, h⟩
theorem srt_filter {l : List Hs} (h : Srt l) (f : Hs → Bool) : Srt (l.filter f) := List.Pairwise.filter f h

/-- the failures of a task -/
def cntH (l : List Hs) (t : Int) : Int := match l.find? (fun x => x.t == t) with | some x => x.n | none => 0
theorem seen_none {l : List Hs} {t : Int} (h : ∀ k, k < l.length → (hsAt l k).t ≠ t) : cntH l t = 0 := by
  unfold cntH
  rw [List.find?_eq_none.2 fun x hx => by
    obtain ⟨k, hk, rfl⟩ := hs_mem.1 hx
    simpa using h k hk]
theorem find_first : ∀ {l : List Hs} {t : Int} {i : Nat}, i < l.length → (∀ k, k < i → (hsAt l k).t ≠ t) → (hsAt l i).t = t → l.find? (fun x => x.t == t) = some (hsAt l i)
  | [], _, i, hi, _, _ => by simp at hi
  | x :: l, t, 0, _, _, h => by
    have h' : x.t = t := h
    simp [List.find?_cons, h', hsAt]
  | x :: l, t, i + 1, hi, h0, h => by
    have hx : x.t ≠ t := h0 0 (by omega)
    have hx' : (x.t == t) = false := by simpa using hx
    rw [List.find?_cons, hx']
    exact find_first (i := i) (by simpa using hi) (fun k hk => h0 (k + 1) (by omega)) h
theorem seen_first {l : List Hs} {t : Int} {i : Nat} (hi : i < l.length) (h0 : ∀ k, k < i → (hsAt l k).t ≠ t) (h : (hsAt l i).t = t) : cntH l t = (hsAt l i).n := by
  unfold cntH; rw [find_first hi h0 h]
/-- the histories with another one for a task -/
def putH (l : List Hs) (x : Hs) : List Hs := l.filter (fun z => z.t < x.t) ++ x :: l.filter (fun z => x.t < z.t)
theorem put_mem {l : List Hs} {x z : Hs} : z ∈ putH l x ↔ z = x ∨ (z ∈ l ∧ z.t ≠ x.t) := by
  simp only [putH, List.mem_append, List.mem_filter, List.mem_cons, decide_eq_true_eq]
  constructor
  · rintro (⟨h, h'⟩ | h | ⟨h, h'⟩)
    · exact .inr ⟨h, by omega⟩
    · exact .inl h
    · exact .inr ⟨h, by omega⟩
  · rintro (h | ⟨h, h'⟩)
    · exact .inr (.inl h)
    · rcases Int.lt_or_gt_of_ne h' with h1 | h1
      · exact .inl ⟨h, h1⟩
      · exact .inr (.inr ⟨h, h1⟩)
theorem put_srt {l : List Hs} (h : Srt l) (x : Hs) : Srt (putH l x) := by
  refine srt_append (srt_filter h _) (List.pairwise_cons.2 ⟨?_, srt_filter h _⟩) ?_
  · intro y hy; have := (List.mem_filter.1 hy).2; simpa using this
  · intro a ha y hy
    have h1 := (List.mem_filter.1 ha).2
    simp only [decide_eq_true_eq] at h1
    rcases List.mem_cons.1 hy with rfl | hy
    · exact h1
    · have h2 := (List.mem_filter.1 hy).2
      simp only [decide_eq_true_eq] at h2
      omega
theorem put_valid {l : List Hs} (h : validH l = true) {x : Hs} (hx : okE x = true) : validH (putH l x) = true :=
  validH_of (put_srt (validH_srt h) x) fun z hz => by
    rcases put_mem.1 hz with rfl | ⟨hz, _⟩
    · exact hx
    · exact validH_ok h z hz
theorem put_len (l : List Hs) (x : Hs) (h : Srt l) : (putH l x).length ≤ l.length + 1 := by
  unfold putH
  simp only [List.length_append, List.length_cons]
  have : (l.filter (fun z => z.t < x.t)).length + (l.filter (fun z => x.t < z.t)).length ≤ l.length := by
    clear h
    induction l with
    | nil => simp
    | cons a l ih =>
      simp only [List.filter_cons, List.length_cons]
      by_cases h1 : a.t < x.t
      · have h2 : ¬ x.t < a.t := by omega
        simp [h1, h2]; omega
      · by_cases h2 : x.t < a.t
        · simp [h1, h2]; omega
        · simp [h1, h2]; omega
  omega
theorem seen_mem {l : List Hs} (h : Srt l) {x : Hs} (hx : x ∈ l) : cntH l x.t = x.n := by
  obtain ⟨k, hk, rfl⟩ := hs_mem.1 hx
  exact seen_first hk (fun j hj => by have := srt_at h hj hk; omega) rfl
theorem seen_not {l : List Hs} {t : Int} (h : ∀ x ∈ l, x.t ≠ t) : cntH l t = 0 := seen_none fun k hk => h _ (hs_mem.2 ⟨k, hk, rfl⟩)
theorem seen_put {l : List Hs} (h : Srt l) (x : Hs) (t : Int) : cntH (putH l x) t = if t = x.t then x.n else cntH l t := by
  have hs := put_srt h x
  by_cases e : t = x.t
  · rw [if_pos e, e]; exact seen_mem hs (put_mem.2 (.inl rfl))
  · rw [if_neg e]
    by_cases hex : ∃ z ∈ l, z.t = t
    · obtain ⟨z, hz, rfl⟩ := hex
      rw [seen_mem h hz, seen_mem hs (put_mem.2 (.inr ⟨hz, e⟩))]
    · rw [seen_not (fun z hz hzt => hex ⟨z, hz, hzt⟩), seen_not fun z hz hzt => by
        rcases put_mem.1 hz with rfl | ⟨hz, _⟩
        · exact e hzt.symm
        · exact hex ⟨z, hz, hzt⟩]
theorem take_lt {l : List Hs} {i : Nat} {t : Int} (h : ∀ k, k < i → (hsAt l k).t < t) : ∀ z ∈ l.take i, z.t < t := by
  intro z hz
  obtain ⟨k, hk, rfl⟩ := List.mem_iff_getElem.1 hz
  simp at hk
  have := h k (by omega)
  simpa [hsAt, show k < l.length by omega] using this
theorem drop_ge {l : List Hs} {i : Nat} {t : Int} (h : ∀ k, i ≤ k → k < l.length → t ≤ (hsAt l k).t) : ∀ z ∈ l.drop i, t ≤ z.t := by
  intro z hz
  obtain ⟨k, hk, rfl⟩ := List.mem_iff_getElem.1 hz
  simp at hk
  have := h (i + k) (by omega) (by omega)
  simpa [hsAt, show i + k < l.length by omega] using this
theorem put_ins {l : List Hs} {i : Nat} {x : Hs} (h1 : ∀ k, k < i → (hsAt l k).t < x.t) (h2 : ∀ k, i ≤ k → k < l.length → x.t < (hsAt l k).t) : l.take i ++ x :: l.drop i = putH l x := by
  have hd := drop_ge (t := x.t + 1) (fun k hk hk2 => by have := h2 k hk hk2; omega)
  have ht := take_lt h1
  have e1 : l.filter (fun z => z.t < x.t) = l.take i := by
    conv => lhs; rw [← List.take_append_drop i l]
    rw [List.filter_append, List.filter_eq_self.2 (fun z hz => by simpa using ht z hz), List.filter_eq_nil_iff.2 (fun z hz => by have := hd z hz; simp; omega), List.append_nil]
  have e2 : l.filter (fun z => x.t < z.t) = l.drop i := by
    conv => lhs; rw [← List.take_append_drop i l]
    rw [List.filter_append, List.filter_eq_nil_iff.2 (fun z hz => by have := ht z hz; simp; omega), List.filter_eq_self.2 (fun z hz => by have := hd z hz; simp; omega), List.nil_append]
  unfold putH
  rw [e1, e2]
theorem put_set {l : List Hs} (hs : Srt l) {i : Nat} {x : Hs} (hi : i < l.length) (h : (hsAt l i).t = x.t) : l.set i x = putH l x := by
  have h1 : ∀ k, k < i → (hsAt l k).t < x.t := fun k hk => by have := srt_at hs hk hi; omega
  have ht := take_lt h1
  have hd := drop_ge (l := l) (i := i + 1) (t := x.t + 1) (fun k hk hk2 => by have := srt_at hs (show i < k by omega) hk2; omega)
  have hl : l = l.take i ++ hsAt l i :: l.drop (i + 1) := by
    have := hs_get hi
    rw [List.getElem?_eq_getElem hi] at this
    rw [← Option.some.inj this, ← List.drop_eq_getElem_cons hi, List.take_append_drop]
  have e1 : l.filter (fun z => z.t < x.t) = l.take i := by
    conv => lhs; rw [hl]
    rw [List.filter_append, List.filter_eq_self.2 (fun z hz => by simpa using ht z hz), List.filter_cons_of_neg (by simp [h]), List.filter_eq_nil_iff.2 (fun z hz => by have := hd z hz; simp; omega), List.append_nil]
  have e2 : l.filter (fun z => x.t < z.t) = l.drop (i + 1) := by
    conv => lhs; rw [hl]
    rw [List.filter_append, List.filter_eq_nil_iff.2 (fun z hz => by have := ht z hz; simp; omega), List.filter_cons_of_neg (by simp [h]), List.filter_eq_self.2 (fun z hz => by have := hd z hz; simp; omega), List.nil_append]
  unfold putH
  rw [e1, e2]
  exact List.set_eq_take_append_cons_drop.trans (by rw [if_pos hi])

/-- a valid list of components has at most nine -/
theorem srt_room : ∀ (n : Nat) {l : List Hs} {lo : Int}, l.length = n → Srt l → (∀ x ∈ l, lo ≤ x.t ∧ x.t ≤ 10) → lo ≤ 11 → (l.length : Int) ≤ 11 - lo
  | 0, l, lo, hn, _, _, h => by omega
  | n + 1, [], lo, hn, _, _, _ => by simp at hn
  | n + 1, x :: l, lo, hn, hs, hb, h => by
    have hs' := List.pairwise_cons.1 hs
    have hx := hb x (by simp)
    have := srt_room n (l := l) (lo := x.t + 1) (by simpa using hn) hs'.2 (fun y hy => ⟨by have := hs'.1 y hy; omega, (hb y (by simp [hy])).2⟩) (by omega)
    simp only [List.length_cons]; omega
theorem validH_len {l : List Hs} (h : validH l = true) : l.length ≤ 9 := by
  have := srt_room l.length rfl (validH_srt h) (lo := 2) (fun x hx => by have := okE_iff.1 (validH_ok h x hx); omega) (by omega)
  omega
theorem cnt_ok {l : List Hs} (h : validH l = true) (t : Int) : 0 ≤ cntH l t ∧ cntH l t ≤ 1000000000 := by
  unfold cntH
  cases hf : l.find? (fun x => x.t == t) with
  | none => simp
  | some x =>
    have := okE_iff.1 (validH_ok h x (List.mem_of_find?_eq_some hf))
    simp; omega
/-- the histories behind a failure -/
def failH (l : List Hs) (t c : Int) : List Hs := putH l ⟨t, min (cntH l t + 1) 1000000000, c⟩
theorem fail_valid {l : List Hs} (h : validH l = true) {t c : Int} (ht : cmpt t = true) (h1 : 1 ≤ c) (h2 : c ≤ 7) : validH (failH l t c) = true :=
  put_valid h (okE_iff.2 (by have := cnt_ok h t; simp [cmpt] at ht; dsimp only; omega))
/-- waiting lists -/
def itAt (l : List Int) (k : Nat) : Int := l.getD k 0
theorem it_get {l : List Int} {k : Nat} (h : k < l.length) : l[k] = itAt l k := by simp [itAt, h]
theorem it_get? {l : List Int} {k : Nat} (h : k < l.length) : l[k]? = some (itAt l k) := by simp [itAt, h]
def prp (t : Int) : Bool := decide (1 ≤ t ∧ t < 32)
def okI (l : List Int) (k : Nat) : Bool := prp (itAt l k) && (decide (k = 0) || decide (itAt l (k - 1) < itAt l k))
def validI (l : List Int) : Bool := (List.range l.length).all (okI l)
theorem validI_false {l : List Int} {k : Nat} (hk : k < l.length) (h : okI l k = false) : validI l = false := by
  unfold validI
  rw [List.all_eq_false]
  exact ⟨k, List.mem_range.2 hk, by simp [h]⟩
theorem validI_true {l : List Int} (h : ∀ k, k < l.length → okI l k = true) : validI l = true :=
  List.all_eq_true.2 fun k hk => h k (List.mem_range.1 hk)
theorem validI_at {l : List Int} (h : validI l = true) {k : Nat} (hk : k < l.length) : okI l k = true := List.all_eq_true.1 h k (List.mem_range.2 hk)
theorem okI_iff {l : List Int} {k : Nat} : okI l k = true ↔ (1 ≤ itAt l k ∧ itAt l k < 32) ∧ (k = 0 ∨ itAt l (k - 1) < itAt l k) := by simp [okI, prp]
theorem validI_lt {l : List Int} (h : validI l = true) : ∀ (j i : Nat), i < j → j < l.length → itAt l i < itAt l j
  | 0, i, hij, _ => absurd hij (Nat.not_lt_zero _)
  | j + 1, i, hij, hj => by
    have h1 := (okI_iff.1 (validI_at h hj)).2
    rw [Nat.add_sub_cancel] at h1
    have h1 : itAt l j < itAt l (j + 1) := by rcases h1 with h1 | h1; · omega
                                              · exact h1
    by_cases e : i = j
    · subst e; exact h1
    · have := validI_lt h j i (by omega) (by omega); omega
theorem validI_iff {l : List Int} : validI l = true ↔ (∀ x ∈ l, 1 ≤ x ∧ x < 32) ∧ l.Pairwise (· < ·) := by
  constructor
  · intro h
    refine ⟨fun x hx => ?_, List.pairwise_iff_getElem.2 fun i j hi hj hij => ?_⟩
    · obtain ⟨k, hk, rfl⟩ := List.getElem_of_mem hx
      rw [it_get hk]; exact (okI_iff.1 (validI_at h hk)).1
    · rw [it_get hi, it_get hj]; exact validI_lt h j i hij hj
  · rintro ⟨h1, h2⟩
    refine validI_true fun k hk => okI_iff.2 ⟨by rw [← it_get hk]; exact h1 _ (List.getElem_mem hk), ?_⟩
    by_cases h0 : k = 0
    · exact .inl h0
    · refine .inr ?_
      have hk1 : k - 1 < l.length := by omega
      rw [← it_get hk, ← it_get hk1]
      exact List.pairwise_iff_getElem.1 h2 _ _ hk1 hk (by omega)
/-- valid heartbeats, as a Bool -/
def okBb (r : Int) (l : List Int) : Bool := validI l && (decide (0 ≤ r) && decide (r ≤ 1000000000) && (decide (0 < r) || decide (l.length = 0)))
theorem okBb_iff {r : Int} {l : List Int} : okBb r l = true ↔ OkB r l := by
  simp only [okBb, Bool.and_eq_true, Bool.or_eq_true, decide_eq_true_eq]
  constructor
  · rintro ⟨h, ⟨h0, h1⟩, h2⟩
    exact ⟨(validI_iff.1 h).1, (validI_iff.1 h).2, h0, h1, h2.imp id List.length_eq_zero_iff.1⟩
  · rintro ⟨h1, h2, h3, h4, h5⟩
    exact ⟨validI_iff.2 ⟨h1, h2⟩, ⟨h3, h4⟩, h5.imp id (fun e => by rw [e]; rfl)⟩
/-- a state of the server -/
structure Sv where
  r : Int
  wt : List Int
  hs : List Hs
def validV (s : Sv) : Bool := okBb s.r s.wt && s.wt.all cmpt && validH s.hs
structure VOk (s : Sv) : Prop where
  b : OkB s.r s.wt
  w : ∀ x ∈ s.wt, 2 ≤ x ∧ x ≤ 10
  h : validH s.hs = true
theorem validV_iff {s : Sv} : validV s = true ↔ VOk s := by
  simp only [validV, Bool.and_eq_true, okBb_iff, List.all_eq_true]
  constructor
  · rintro ⟨⟨h1, h2⟩, h3⟩
    exact ⟨h1, fun x hx => by simpa [cmpt] using h2 x hx, h3⟩
  · rintro ⟨h1, h2, h3⟩
    exact ⟨⟨h1, fun x hx => by simpa [cmpt] using h2 x hx⟩, h3⟩
theorem srtI_room : ∀ (n : Nat) {l : List Int} {lo : Int}, l.length = n → l.Pairwise (· < ·) → (∀ x ∈ l, lo ≤ x ∧ x ≤ 10) → lo ≤ 11 → (l.length : Int) ≤ 11 - lo
  | 0, l, lo, hn, _, _, h => by omega
  | n + 1, [], lo, hn, _, _, _ => by simp at hn
  | n + 1, x :: l, lo, hn, hs, hb, h => by
    have hs' := List.pairwise_cons.1 hs
    have hx := hb x (by simp)
    have := srtI_room n (l := l) (lo := x + 1) (by simpa using hn) hs'.2 (fun y hy => ⟨by have := hs'.1 y hy; omega, (hb y (by simp [hy])).2⟩) (by omega)
    simp only [List.length_cons]; omega
theorem VOk.len {s : Sv} (h : VOk s) : s.wt.length ≤ 9 := by
  have := srtI_room s.wt.length rfl h.b.srt (lo := 2) h.w (by omega)
  omega
def comps : List Int := [2, 3, 4, 5, 6, 7, 8, 9, 10]
/-- effects of the server -/
structure Ef where
  k : Int
  a0 : Int
  a1 : Int
  md : Int
  mc : Int
  ma : Int
def encE (x : Ef) : List Value := [.int .i64 x.k, .int .i64 x.a0, .int .i64 x.a1, .int .i64 0, .int .i64 0, .int .i64 0, .int .i64 x.md, .int .i64 x.mc, .int .i64 0, .int .i64 x.ma, .int .i64 0, .int .i64 0, .int .i64 0, .slice none 0 0, .slice none 0 0]
theorem encE_len (x : Ef) : (encE x).length = 15 := rfl
theorem encE_one (l : List Ef) : ∀ u ∈ l.flatMap encE, u.oneCell' = true := by
  intro u hu
  obtain ⟨x, _, h⟩ := List.mem_flatMap.1 hu
  simp [encE] at h
  rcases h with rfl | rfl | rfl | rfl | rfl | rfl | rfl | rfl | rfl | rfl <;> rfl
def rstE (t m : Int) : Ef := ⟨16, t, m, 0, 0, 0⟩
def pingE (r t : Int) : Ef := ⟨1, 0, 0, t, 6, r⟩
def timE : Ef := ⟨4, 64, 1, 0, 0, 0⟩
def SlE (w : World) (v : Value) (l : List Ef) : Prop := Raw [] 15 w v l.length (l.flatMap encE)
theorem SlE.below {w w' : World} {v : Value} {l : List Ef} (h : SlE w v l) (hb : Below w.heap.size w w') : SlE w' v l := Raw.below h hb
/-- the mode of the restart behind a failure -/
def modeH (l : List Hs) (t : Int) : Int := if min (cntH l t + 1) 1000000000 % 2 = 1 then 0 else 1
/-- an alarm -/
def alarmV (s : Sv) : Sv × List Ef :=
  if s.r < 1000000000 then (⟨s.r + 1, comps, s.wt.foldl (fun h t => failH h t 7) s.hs⟩, s.wt.map (fun t => rstE t 1) ++ (comps.map (pingE (s.r + 1)) ++ [timE]))
  else (s, [timE])
/-- an answer -/
def pongV (s : Sv) (t r : Int) : Sv := if t ∈ s.wt ∧ r = s.r then { s with wt := less s.wt t } else s
structure Ms where
  src : Int
  dst : Int
  kind : Int
  seq : Int
  a0 : Int
  a1 : Int
  a2 : Int
  a3 : Int
def msgC (m : Ms) (dv : Value) : Array Value := #[.int .i64 m.src, .int .i64 m.dst, .int .i64 m.kind, .int .i64 m.seq, .int .i64 m.a0, .int .i64 m.a1, .int .i64 m.a2, .int .i64 m.a3, dv]
theorem fold_valid : ∀ (l : List Int) (h : List Hs), validH h = true → (∀ x ∈ l, 2 ≤ x ∧ x ≤ 10) → validH (l.foldl (fun h t => failH h t 7) h) = true
  | [], h, hv, _ => hv
  | x :: l, h, hv, hx => fold_valid l _ (fail_valid hv (by have := hx x (by simp); simp [cmpt, this]) (by omega) (by omega)) (fun y hy => hx y (by simp [hy]))
theorem once_comps : once comps = comps := once_self (by decide)
theorem alarm_ok {s : Sv} (h : VOk s) : VOk (alarmV s).1 := by
  unfold alarmV
  split
  · have := h.b.r0; have := h.b.r1
    refine ⟨?_, show ∀ x ∈ comps, 2 ≤ x ∧ x ≤ 10 by decide, fold_valid _ _ h.h h.w⟩
    dsimp only
    rw [← once_comps]
    exact once_ok (by omega) (by omega) (by decide)
  · exact h
theorem less_sub {l : List Int} {x y : Int} (h : y ∈ less l x) : y ∈ l := (List.mem_filter.1 h).1
theorem pong_ok' {s : Sv} (h : VOk s) (t r : Int) : VOk (pongV s t r) := by
  unfold pongV
  split
  · exact ⟨h.b.less t, fun x hx => h.w x (less_sub hx), h.h⟩
  · exact h
end Go.Rv
