/- names: plain facts. No program in sight. -/
import Derived.Test.YtfgbkfifiioeiaaM2
import Derived.Shelf.GgClosure.StringsIndexFunc
import Derived.Laws.RangeString
import Derived.Laws.RangeAny
import Derived.Lib.Bytealg
namespace Go.Nm
open Go Go.RowKit Go.Bs Go.Cl Go.Rw
/-- the order of strings -/
abbrev slt (a b : List UInt8) : Bool := Op.bytesLess a b
theorem slt_irrefl : ∀ a : List UInt8, slt a a = false
  | [] => rfl
  | x :: a => by unfold slt Op.bytesLess; have := slt_irrefl a; unfold slt at this; simp [this]
theorem slt_trans : ∀ {a b c : List UInt8}, slt a b = true → slt b c = true → slt a c = true
  | _, [], _, h, _ => by simp [slt, Op.bytesLess] at h
  | [], y :: b, [], _, h => by simp [slt, Op.bytesLess] at h
  | [], y :: b, z :: c, _, _ => rfl
  | x :: a, y :: b, [], _, h => by simp [slt, Op.bytesLess] at h
  | x :: a, y :: b, z :: c, h1, h2 => by
    unfold slt Op.bytesLess at h1 h2 ⊢
    simp only [Bool.or_eq_true, Bool.and_eq_true, decide_eq_true_eq, beq_iff_eq] at h1 h2 ⊢
    rcases h1 with h1 | ⟨rfl, h1⟩
    · rcases h2 with h2 | ⟨rfl, h2⟩
      · exact .inl (UInt8.lt_trans h1 h2)
      · exact .inl h1
    · rcases h2 with h2 | ⟨rfl, h2⟩
      · exact .inl h2
      · exact .inr ⟨rfl, slt_trans h1 h2⟩
theorem slt_total : ∀ {a b : List UInt8}, a ≠ b → slt a b = true ∨ slt b a = true
  | [], [], h => absurd rfl h
  | [], y :: b, _ => .inl rfl
  | x :: a, [], _ => .inr rfl
  | x :: a, y :: b, h => by
    unfold slt Op.bytesLess
    simp only [Bool.or_eq_true, Bool.and_eq_true, decide_eq_true_eq, beq_iff_eq]
    by_cases e : x = y
    · subst e
      rcases slt_total (a := a) (b := b) (fun e => h (by rw [e])) with h' | h'
      · exact .inl (.inr ⟨rfl, h'⟩)
      · exact .inr (.inr ⟨rfl, h'⟩)
    · rcases UInt8.lt_or_lt_of_ne e with h' | h'
      · exact .inl (.inl h')
      · exact .inr (.inl h')
theorem slt_asymm {a b : List UInt8} (h : slt a b = true) : slt b a = false := by
  cases h' : slt b a
  · rfl
  · have := slt_trans h h'; rw [slt_irrefl] at this; cases this
theorem slt_ne {a b : List UInt8} (h : slt a b = true) : a ≠ b := fun e => by subst e; rw [slt_irrefl] at h; cases h
/-- what strings.Compare returns -/
def cmpS (a b : List UInt8) : Int := if slt a b then -1 else if a = b then 0 else 1
theorem cmp_eq : ∀ (a b : List UInt8), Lib.compareBytes a b = cmpS a b
  | [], [] => rfl
  | [], y :: b => rfl
  | x :: a, [] => rfl
  | x :: a, y :: b => by
    unfold Lib.compareBytes
    have ih := cmp_eq a b
    unfold cmpS slt at ih ⊢
    unfold Op.bytesLess
    by_cases h1 : x < y
    · simp [h1]
    · by_cases h2 : y < x
      · have : ¬ x = y := fun e => by subst e; exact h1 h2
        simp [h1, h2, this]
      · have : x = y := by
          rcases Classical.em (x = y) with e | e
          · exact e
          · rcases UInt8.lt_or_lt_of_ne e with h | h
            · exact absurd h h1
            · exact absurd h h2
        subst this
        simp [h1, ih]

theorem strOf_list (l : List UInt8) : (strOf l).toList = l := ByteArray.toList_mk l
theorem strOf_data (l : List UInt8) : (strOf l).data.toList = l := rfl
theorem strOf_size (l : List UInt8) : (strOf l).size = l.length := rfl
/-- a byte of a name -/
def okC (c : UInt8) : Bool := (decide (97 ≤ c.toNat) && decide (c.toNat ≤ 122)) || (decide (48 ≤ c.toNat) && decide (c.toNat ≤ 57)) || c.toNat == 46 || c.toNat == 45 || c.toNat == 95
/-- a rune that is in no name -/
def badR (r : Nat) : Bool := (decide (r < 97) || decide (122 < r)) && (decide (r < 48) || decide (57 < r)) && r != 46 && r != 45 && r != 95
theorem badR_ok (c : UInt8) : badR c.toNat = !okC c := by
  unfold badR okC
  rw [Bool.eq_iff_iff]
  simp only [Bool.and_eq_true, Bool.or_eq_true, decide_eq_true_eq, bne_iff_ne, Bool.not_eq_true', Bool.or_eq_false_iff, Bool.and_eq_false_iff, decide_eq_false_iff_not, beq_eq_false_iff_ne]
  omega
theorem badR_high {r : Nat} (h : 128 ≤ r) : badR r = true := by
  unfold badR
  simp only [Bool.and_eq_true, Bool.or_eq_true, decide_eq_true_eq, bne_iff_ne]
  omega
theorem okC_low {c : UInt8} (h : 128 ≤ c.toNat) : okC c = false := by
  have := badR_ok c
  rw [badR_high h] at this
  simpa using this.symm
theorem idx_from (l : List UInt8) : ∀ (f pos : Nat), l.length ≤ pos + f → decide (0 ≤ Lib.idxFuncFrom badR true (strOf l) f pos) = !(l.drop pos).all okC
  | 0, pos, h => by
    rw [List.drop_eq_nil_of_le (by omega)]
    rfl
  | f + 1, pos, h => by
    unfold Lib.idxFuncFrom
    rw [strOf_size]
    by_cases hp : pos < l.length
    · rw [if_pos hp, List.drop_eq_getElem_cons hp, List.all_cons]
      have hps : pos < (strOf l).size := hp
      have hge : (strOf l)[pos]'hps = l[pos] := rfl
      by_cases ha : (l[pos]).toNat < 128
      · have hd := decode_ascii (strOf l) pos hps (by rw [hge]; exact ha)
        rw [hge] at hd
        rw [hd]
        simp only [badR_ok]
        cases hk : okC l[pos]
        · simp
        · simp only [Bool.not_true, Bool.false_eq_true, if_false, Bool.true_and]
          exact idx_from l f (pos + 1) (by omega)
      · have hd := decode_high (strOf l) pos hps (by rw [hge]; omega)
        rw [badR_high hd.1, okC_low (by omega)]
        simp
    · rw [if_neg hp, List.drop_eq_nil_of_le (by omega)]
      rfl
theorem idx_all (l : List UInt8) : decide (0 ≤ Lib.idxFunc badR true (strOf l)) = !l.all okC := by
  have := idx_from l l.length 0 (by omega)
  rwa [List.drop_zero] at this
def nmOK (s : List UInt8) : Bool := decide (1 ≤ s.length) && decide (s.length ≤ 14) && s.all okC

structure Nm where
  s : List UInt8
  t : Int
def encN (x : Nm) : List Value := [.string (strOf x.s), .int .i64 x.t]
theorem encN_len (x : Nm) : (encN x).length = 2 := rfl
def nmAt (l : List Nm) (k : Nat) : Nm := l.getD k ⟨[], 0⟩
theorem nm_get {l : List Nm} {i : Nat} (h : i < l.length) : l[i]? = some (nmAt l i) := by simp [nmAt, h]
theorem nm_getE {l : List Nm} {i : Nat} (h : i < l.length) : l[i] = nmAt l i := by simp [nmAt, h]
theorem encN_one (l : List Nm) : ∀ u ∈ l.flatMap encN, u.oneCell' = true := by
  intro u hu
  obtain ⟨x, _, h⟩ := List.mem_flatMap.1 hu
  simp [encN] at h
  rcases h with rfl | rfl <;> rfl
/-- v reads as the state l -/
def SlN (w : World) (v : Value) (l : List Nm) : Prop := Raw [] 2 w v l.length (l.flatMap encN)
theorem SlN.below {w w' : World} {v : Value} {l : List Nm} (h : SlN w v l) (hb : Below w.heap.size w w') : SlN w' v l := Raw.below h hb
theorem SlN.of_own {w : World} {base e n : Nat} {v : Value} {l : List Nm} (h : w.ownsRow base e 2 v n (l.flatMap encN)) : SlN w v l := by
  have hn : n = l.length := by have := h.1; rw [flat_length encN encN_len] at this; omega
  subst hn
  exact Raw.of_own h (encN_one l) (fun f hf => by cases hf)
theorem SlN.elem {w : World} {a : Option Addr} {n c : Nat} {l : List Nm} (h : SlN w (.slice a n c) l) {i : Nat} (hi : i < l.length) :
    ∃ b off, a = some ⟨b, off, none⟩ ∧ b < w.heap.size ∧ w.cell? ⟨b, off + i * 2, none⟩ = some (.string (strOf (nmAt l i).s)) ∧ w.cell? ⟨b, off + i * 2 + 1, none⟩ = some (.int .i64 (nmAt l i).t) := by
  have hget := nm_get hi
  rcases Raw.cases h with ⟨h0, _⟩ | ⟨_, b, off, cap, hv, _, _, hb, _, hc⟩
  · omega
  · cases hv
    exact ⟨b, off, rfl, hb, hc _ _ (flat_get encN encN_len l i 0 _ hget (by omega)), hc _ _ (flat_get encN encN_len l i 1 _ hget (by omega))⟩
theorem nm_mem {l : List Nm} {z : Nm} : z ∈ l ↔ ∃ k, k < l.length ∧ nmAt l k = z := by
  rw [List.mem_iff_getElem]
  constructor
  · rintro ⟨k, hk, h⟩; exact ⟨k, hk, by simp [nmAt, hk, h]⟩
  · rintro ⟨k, hk, h⟩; exact ⟨k, hk, by simpa [nmAt, hk] using h⟩
/-- how many names a task has -/
def cnt (l : List Nm) (t : Int) : Nat := l.countP (·.t == t)
theorem cnt_take {l : List Nm} {t : Int} {k : Nat} (h : k < l.length) : cnt (l.take (k + 1)) t = cnt (l.take k) t + if (nmAt l k).t = t then 1 else 0 := by
  unfold cnt
  rw [List.take_add_one, nm_get h, List.countP_append]
  simp [List.countP_cons]
theorem cnt_le (l : List Nm) (t : Int) : cnt l t ≤ l.length := List.countP_le_length
def okN (l : List Nm) (k : Nat) : Bool := nmOK (nmAt l k).s && decide (1 ≤ (nmAt l k).t) && decide ((nmAt l k).t ≤ 10) && (decide (k = 0) || slt (nmAt l (k - 1)).s (nmAt l k).s) && decide (cnt l (nmAt l k).t ≤ 4)
def validN (l : List Nm) : Bool := (List.range l.length).all (okN l) && decide (l.length ≤ 40)
theorem validN_false {l : List Nm} {k : Nat} (hk : k < l.length) (h : okN l k = false) : validN l = false := by
  unfold validN
  rw [Bool.and_eq_false_iff]
  left
  rw [List.all_eq_false]
  exact ⟨k, List.mem_range.2 hk, by simp [h]⟩
theorem validN_true {l : List Nm} (h : ∀ k, k < l.length → okN l k = true) : validN l = decide (l.length ≤ 40) := by
  unfold validN
  rw [List.all_eq_true.2 fun k hk => h k (List.mem_range.1 hk), Bool.true_and]
theorem validN_at {l : List Nm} (h : validN l = true) {k : Nat} (hk : k < l.length) : okN l k = true := by
  unfold validN at h
  rw [Bool.and_eq_true] at h
  exact List.all_eq_true.1 h.1 k (List.mem_range.2 hk)
theorem validN_len {l : List Nm} (h : validN l = true) : l.length ≤ 40 := by
  unfold validN at h
  rw [Bool.and_eq_true] at h
  simpa using h.2
theorem okN_iff {l : List Nm} {k : Nat} : okN l k = true ↔ nmOK (nmAt l k).s = true ∧ 1 ≤ (nmAt l k).t ∧ (nmAt l k).t ≤ 10 ∧ (k = 0 ∨ slt (nmAt l (k - 1)).s (nmAt l k).s = true) ∧ cnt l (nmAt l k).t ≤ 4 := by simp [okN, and_assoc]
def Srt (l : List Nm) : Prop := l.Pairwise (fun a b => slt a.s b.s = true)
theorem valid_lt {l : List Nm} (h : validN l = true) : ∀ (j i : Nat), i < j → j < l.length → slt (nmAt l i).s (nmAt l j).s = true
  | 0, i, hij, _ => absurd hij (Nat.not_lt_zero _)
  | j + 1, i, hij, hj => by
    have h1 := (okN_iff.1 (validN_at h hj)).2.2.2.1
    rw [Nat.add_sub_cancel] at h1
    have h1 : slt (nmAt l j).s (nmAt l (j + 1)).s = true := h1.resolve_left (by omega)
    by_cases e : i = j
    · subst e; exact h1
    · exact slt_trans (valid_lt h j i (by omega) (by omega)) h1
theorem srt_of {l : List Nm} (h : ∀ i j, i < j → j < l.length → slt (nmAt l i).s (nmAt l j).s = true) : Srt l := by
  unfold Srt
  rw [List.pairwise_iff_getElem]
  intro i j hi hj hij
  rw [nm_getE hi, nm_getE hj]
  exact h i j hij hj
theorem srt_at {l : List Nm} (h : Srt l) {i j : Nat} (hij : i < j) (hj : j < l.length) : slt (nmAt l i).s (nmAt l j).s = true := by
  unfold Srt at h
  rw [List.pairwise_iff_getElem] at h
  have hi : i < l.length := by omega
  have := h i j hi hj hij
  rwa [nm_getE hi, nm_getE hj] at this
theorem valid_srt {l : List Nm} (h : validN l = true) : Srt l := srt_of fun i j hij hj => valid_lt h j i hij hj
def okE (x : Nm) : Bool := nmOK x.s && decide (1 ≤ x.t) && decide (x.t ≤ 10)
theorem valid_ok {l : List Nm} (h : validN l = true) : ∀ x ∈ l, okE x = true := by
  intro x hx
  obtain ⟨k, hk, rfl⟩ := nm_mem.1 hx
  have := okN_iff.1 (validN_at h hk)
  simp [okE, this.1, this.2.1, this.2.2.1]
theorem valid_cnt {l : List Nm} (h : validN l = true) (t : Int) : cnt l t ≤ 4 := by
  by_cases hx : ∃ x ∈ l, x.t = t
  · obtain ⟨x, hx, rfl⟩ := hx
    obtain ⟨k, hk, rfl⟩ := nm_mem.1 hx
    exact (okN_iff.1 (validN_at h hk)).2.2.2.2
  · have : cnt l t = 0 := by
      unfold cnt
      rw [List.countP_eq_zero]
      intro x hx' he
      exact hx ⟨x, hx', by simpa using he⟩
    omega
theorem valid_of {l : List Nm} (h : Srt l) (hok : ∀ x ∈ l, okE x = true) (hc : ∀ t, cnt l t ≤ 4) (hl : l.length ≤ 40) : validN l = true := by
  rw [validN_true fun k hk => ?_]
  · simpa using hl
  · rw [okN_iff]
    have h1 := hok _ (nm_mem.2 ⟨k, hk, rfl⟩)
    simp only [okE, Bool.and_eq_true, decide_eq_true_eq] at h1
    refine ⟨h1.1.1, h1.1.2, h1.2, ?_, hc _⟩
    by_cases h0 : k = 0
    · exact .inl h0
    · exact .inr (srt_at h (by omega) hk)
end Go.Nm
