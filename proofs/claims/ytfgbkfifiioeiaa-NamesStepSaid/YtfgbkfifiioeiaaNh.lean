/- names: what do leads to is valid; the step, plain -/
import Derived.Test.YtfgbkfifiioeiaaNg
namespace Go.Nm
open Go Go.RowKit Go.Bs Go.Cl Go.Rw Go.Wi
theorem fnd_mem {l : List Nm} {s : List UInt8} (hp : ∀ x ∈ l, 1 ≤ x.t) : fnd l s = 0 ↔ ∀ x ∈ l, x.s ≠ s := by
  constructor
  · intro h x hx e
    unfold fnd at h
    cases hf : l.find? (fun x => x.s == s) with
    | none => rw [List.find?_eq_none] at hf; have := hf x hx; simp [e] at this
    | some y =>
      rw [hf] at h
      have := hp y (List.mem_of_find?_eq_some hf)
      simp only at h
      omega
  · exact fnd_none
theorem valid_pos {l : List Nm} (h : validN l = true) : ∀ x ∈ l, 1 ≤ x.t := fun x hx => by
  have := valid_ok h x hx
  simp only [okE, Bool.and_eq_true, decide_eq_true_eq] at this
  exact this.1.2
theorem ins_gt {l : List Nm} {x : Nm} (hn : ∀ z ∈ l, z.s ≠ x.s) : l.filter (fun z => slt x.s z.s) = l.filter (fun z => !slt z.s x.s) :=
  List.filter_congr fun z hz => by
    rcases slt_total (hn z hz) with h | h
    · rw [h, slt_asymm h]; rfl
    · rw [h, slt_asymm h]; rfl
theorem cnt_ins {l : List Nm} {x : Nm} (hn : ∀ z ∈ l, z.s ≠ x.s) (t : Int) : cnt (insN l x) t = cnt l t + if x.t = t then 1 else 0 := by
  unfold insN cnt
  rw [ins_gt hn, List.countP_append, List.countP_cons]
  have := List.countP_eq_countP_filter_add l (·.t == t) (fun z => slt z.s x.s)
  rw [this]
  by_cases h : x.t = t
  · simp [h]; omega
  · simp [h]
theorem len_ins {l : List Nm} {x : Nm} (hn : ∀ z ∈ l, z.s ≠ x.s) : (insN l x).length = l.length + 1 := by
  unfold insN
  rw [ins_gt hn, List.length_append, List.length_cons]
  have h1 := List.countP_eq_countP_filter_add l (fun _ => true) (fun z => slt z.s x.s)
  rw [List.countP_true] at h1
  omega
theorem ins_mem {l : List Nm} {x z : Nm} (h : z ∈ insN l x) : z = x ∨ z ∈ l := by
  unfold insN at h
  rcases List.mem_append.1 h with h | h
  · exact .inr (List.mem_filter.1 h).1
  · rcases List.mem_cons.1 h with h | h
    · exact .inl h
    · exact .inr (List.mem_filter.1 h).1
theorem srt_ins {l : List Nm} {x : Nm} (h : Srt l) : Srt (insN l x) := by
  unfold insN Srt
  rw [List.pairwise_append]
  refine ⟨List.Pairwise.filter _ h, ?_, ?_⟩
  · rw [List.pairwise_cons]
    exact ⟨fun z hz => (List.mem_filter.1 hz).2, List.Pairwise.filter _ h⟩
  · intro a ha b hb
    have h1 := (List.mem_filter.1 ha).2
    rcases List.mem_cons.1 hb with rfl | hb
    · exact h1
    · exact slt_trans h1 (List.mem_filter.1 hb).2
theorem valid_ins {l : List Nm} {s : List UInt8} {t : Int} (h : validN l = true) (hs : nmOK s = true) (ht : 1 ≤ t ∧ t ≤ 10) (hn : ∀ z ∈ l, z.s ≠ s) (hc : cnt l t < 4) (hl : l.length < 40) : validN (insN l ⟨s, t⟩) = true := by
  refine valid_of (srt_ins (valid_srt h)) (fun x hx => ?_) (fun u => ?_) (by rw [len_ins hn]; omega)
  · rcases ins_mem hx with rfl | hx
    · simp [okE, hs, ht.1, ht.2]
    · exact valid_ok h x hx
  · rw [cnt_ins hn]
    have := valid_cnt h u
    by_cases e : t = u
    · subst e; simp; omega
    · simp [e]; exact this
theorem valid_del {l : List Nm} (h : validN l = true) (s : List UInt8) : validN (delN l s) = true := by
  refine valid_of (List.Pairwise.filter _ (valid_srt h)) (fun x hx => valid_ok h x (List.mem_filter.1 hx).1) (fun u => ?_) (Nat.le_trans (List.length_filter_le _ _) (validN_len h))
  exact Nat.le_trans (List.Sublist.countP_le List.filter_sublist) (valid_cnt h u)
theorem valid_reg {l : List Nm} {s : List UInt8} {t : Int} (h : validN l = true) (hs : nmOK s = true) (ht : 1 ≤ t ∧ t ≤ 10) : validN (regN l s t).1 = true := by
  unfold regN
  split
  · exact h
  split
  · exact h
  split
  · exact h
  · rename_i h1 h2 h3
    exact valid_ins h hs ht ((fnd_mem (valid_pos h)).1 (by omega)) (by omega) (by omega)
theorem valid_rel {l : List Nm} {s : List UInt8} {t : Int} (h : validN l = true) : validN (relN l s t).1 = true := by
  unfold relN
  split
  · exact h
  split
  · exact valid_del h s
  · exact h
theorem valid_do {l : List Nm} {op : Int} {s : List UInt8} {t : Int} (h : validN l = true) (ht : 1 ≤ t ∧ t ≤ 10) : validN (doN l op s t).1 = true := by
  unfold doN
  cases hs : nmOK s
  · rw [if_pos rfl]; exact h
  rw [if_neg (by simp)]
  split
  · exact h
  split
  · exact valid_reg h hs ht
  · exact valid_rel h
theorem valid_fits {l : List Nm} (h : validN l = true) : ∀ x ∈ l, fitsN x := fun x hx => by
  have := valid_ok h x hx
  simp only [okE, nmOK, Bool.and_eq_true, decide_eq_true_eq] at this
  unfold fitsN Wi.fits
  omega
theorem decL_cases (b : List UInt8) : (validN (decL b).1 = true ∧ (decL b).2 = 0) ∨ decL b = ([], 4) := by
  unfold decL
  simp only
  split
  · rename_i h
    rw [Bool.and_eq_true] at h
    exact .inl ⟨h.2, rfl⟩
  · exact .inr rfl
/-- a reply -/
structure Rp where
  k : Int
  a0 : Int
  a1 : Int
  a2 : Int
  a3 : Int
def pingOK (ms mk m1 m2 m3 : Int) (n : Nat) : Prop := mk = 6 ∧ ms = 1 ∧ (m1 = 0 ∧ m2 = 0 ∧ m3 = 0) ∧ n = 0
def callOK (ms mk m0 m1 m2 m3 : Int) (n : Nat) : Prop := mk = 26 ∧ (1 ≤ ms ∧ ms ≤ 10 ∧ ms ≠ 2) ∧ (m1 = 0 ∧ m2 = 0 ∧ m3 = 0) ∧ (0 ≤ m0 ∧ m0 ≤ 2) ∧ n ≤ 128
instance (ms mk m1 m2 m3 : Int) (n : Nat) : Decidable (pingOK ms mk m1 m2 m3 n) := by unfold pingOK; infer_instance
instance (ms mk m0 m1 m2 m3 : Int) (n : Nat) : Decidable (callOK ms mk m0 m1 m2 m3 n) := by unfold callOK; infer_instance
def stepN (l : List Nm) (ms md mk m0 m1 m2 m3 : Int) (d : List UInt8) : Option (List Nm × Rp) :=
  if md ≠ 2 then none
  else if pingOK ms mk m1 m2 m3 d.length then some (l, ⟨7, m0, 0, 0, 0⟩)
  else if callOK ms mk m0 m1 m2 m3 d.length then some ((doN l m0 d ms).1, ⟨27, (doN l m0 d ms).2.2, (doN l m0 d ms).2.1, 0, 0⟩)
  else none
/-- the step on an image: the next state and the reply, or an error -/
def stepB (b : List UInt8) (ms md mk m0 m1 m2 m3 : Int) (d : List UInt8) : Except Int (List Nm × Rp) :=
  if (decL b).2 ≠ 0 then .error 4 else match stepN (decL b).1 ms md mk m0 m1 m2 m3 d with | none => .error 23 | some r => .ok r
def effC (dst : Int) (r : Rp) : Array Value := #[.int .i64 1, .int .i64 0, .int .i64 0, .int .i64 0, .int .i64 0, .int .i64 0, .int .i64 dst, .int .i64 r.k, .int .i64 0, .int .i64 r.a0, .int .i64 r.a1, .int .i64 r.a2, .int .i64 r.a3, .slice none 0 0, .slice none 0 0]
/-- what Step returns; eT: the element type of the effects -/
def RetSt (r : Except Int (List Nm × Rp)) (ms : Int) (w : World) (e : Ending) (w' : World) : Prop :=
  match r with
  | .error c => e = .returned (.tuple #[.slice none 0 0, .slice none 0 0, .int .i64 c]) ∧ Below w.heap.size w w'
  | .ok (l, r) => ∃ iv E, e = .returned (.tuple #[iv, .slice (some ⟨E, 0, none⟩) 1 1, .int .i64 0]) ∧ BRow 5 w' w.heap.size iv (encV l) ∧ w'.heap[E]? = some (.cells (effC ms r) 78 (0, 0)) ∧ w.heap.size ≤ E ∧ Below w.heap.size w w'
end Go.Nm
