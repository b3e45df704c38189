/- Undo: plain facts: records, images. No program in sight. -/
import Derived.Test.YtnbngidelpodkaaRw
namespace Go.Un
open Go Go.RowKit Go.Bs Go.Cl Go.Rw

def sized (b : List UInt8) (n : Nat) : List UInt8 := b.take n ++ List.replicate (n - b.length) 0
theorem sized_len (b : List UInt8) (n : Nat) : (sized b n).length = n := by simp [sized]; omega
def written (b : List UInt8) (o : Nat) (x : List UInt8) : List UInt8 := b.take o ++ x ++ b.drop (o + x.length)
theorem written_len {b : List UInt8} {o : Nat} {x : List UInt8} (h : o + x.length ≤ b.length) : (written b o x).length = b.length := by simp [written]; omega
theorem splice_bytes (b : List UInt8) (o : Nat) (x : List UInt8) : splice (bytesV b) o (bytesV x) = bytesV (written b o x) := by
  simp [splice, written, bytesV]
theorem zeros_bytes (n : Nat) : (madeCells #[Value.int .u8 0] n).toList = bytesV (List.replicate n 0) := by
  apply List.ext_getElem
  · simp [size_madeCells, bytesV]
  · intro i h1 h2
    simp [madeCells, bytesV, byteV, Value.cells, Nat.mod_one]
theorem sized_splice (b : List UInt8) (n : Nat) : written (List.replicate n 0) 0 (b.take (Nat.min b.length n)) = sized b n := by
  unfold written sized
  simp only [List.take_zero, List.nil_append, Nat.zero_add, List.length_take, List.drop_replicate]
  by_cases h : b.length ≤ n
  · have e : Nat.min b.length n = b.length := Nat.min_eq_left h
    rw [e, List.take_of_length_le (Nat.le_refl _), List.take_of_length_le h, Nat.min_self]
  · have e : Nat.min b.length n = n := Nat.min_eq_right (by omega)
    rw [e, Nat.min_eq_left (by omega)]
    congr 2
    omega
structure Rec where
  off : Int
  len : Int
  old : List UInt8
def Rec.ok (r : Rec) : Bool := decide (0 ≤ r.len) && decide (r.len ≤ 24000) && decide (0 ≤ r.off) && decide (r.off ≤ r.len) && decide ((r.old.length : Int) ≤ r.len - r.off)
def takeR (b : List UInt8) (r : Rec) : List UInt8 := written (sized b r.len.toNat) r.off.toNat r.old
theorem Rec.ok_iff {r : Rec} : r.ok = true ↔ 0 ≤ r.len ∧ r.len ≤ 24000 ∧ 0 ≤ r.off ∧ r.off ≤ r.len ∧ (r.old.length : Int) ≤ r.len - r.off := by simp [Rec.ok, and_assoc]
theorem takeR_len {b : List UInt8} {r : Rec} (h : r.ok = true) : (takeR b r).length = r.len.toNat := by
  have := Rec.ok_iff.1 h
  unfold takeR
  rw [written_len (by rw [sized_len]; omega), sized_len]
/-- records taken back, the last one first -/
def takeAll (b : List UInt8) (l : List Rec) : List UInt8 := l.foldr (fun r b => takeR b r) b
def recover (b : List UInt8) (l : List Rec) : List UInt8 × Int := if l.all Rec.ok then (takeAll b l, 0) else ([], 1)

/-- what taking back does to what stands at a place -/
def takeAt (r : Rec) (p : Nat) (x : Option UInt8) : Option UInt8 :=
  if r.len.toNat ≤ p then none else if r.off.toNat ≤ p ∧ p < r.off.toNat + r.old.length then r.old[p - r.off.toNat]? else some (x.getD 0)
theorem sized_get (b : List UInt8) (n p : Nat) : (sized b n)[p]? = if n ≤ p then none else some (b[p]?.getD 0) := by
  unfold sized
  by_cases h : n ≤ p
  · rw [if_pos h]; apply List.getElem?_eq_none; simp; omega
  · rw [if_neg h]
    by_cases hb : p < b.length
    · rw [List.getElem?_append_left (by simp; omega), List.getElem?_take, if_pos (by omega)]
      simp [hb]
    · rw [List.getElem?_append_right (by simp; omega), List.getElem?_replicate, if_pos (by simp; omega)]
      simp [List.getElem?_eq_none (show b.length ≤ p by omega)]
theorem written_get {b : List UInt8} {o : Nat} {x : List UInt8} (h : o + x.length ≤ b.length) (p : Nat) : (written b o x)[p]? = if o ≤ p ∧ p < o + x.length then x[p - o]? else b[p]? := by
  unfold written
  by_cases h1 : p < o
  · rw [if_neg (by omega), List.append_assoc, List.getElem?_append_left (by simp; omega), List.getElem?_take, if_pos h1]
  · by_cases h2 : p < o + x.length
    · rw [if_pos ⟨by omega, h2⟩, List.append_assoc, List.getElem?_append_right (by simp; omega), List.length_take, Nat.min_eq_left (by omega), List.getElem?_append_left (by omega)]
    · rw [if_neg (by omega), List.getElem?_append_right (by simp; omega), List.length_append, List.length_take, Nat.min_eq_left (by omega), List.getElem?_drop]
      congr 1; omega
theorem takeR_get {b : List UInt8} {r : Rec} (h : r.ok = true) (p : Nat) : (takeR b r)[p]? = takeAt r p b[p]? := by
  have := Rec.ok_iff.1 h
  unfold takeR takeAt
  rw [written_get (by rw [sized_len]; omega), sized_get]
  by_cases h1 : r.len.toNat ≤ p
  · rw [if_pos h1, if_neg (by omega), if_pos h1]
  · rw [if_neg h1, if_neg h1]
def takeAllAt (l : List Rec) (p : Nat) (x : Option UInt8) : Option UInt8 := l.foldr (fun r x => takeAt r p x) x
theorem takeAll_get {b : List UInt8} : ∀ {l : List Rec}, (l.all Rec.ok) = true → ∀ p, (takeAll b l)[p]? = takeAllAt l p b[p]?
  | [], _, _ => rfl
  | r :: l, h, p => by
    simp only [List.all_cons, Bool.and_eq_true] at h
    show (takeR (takeAll b l) r)[p]? = takeAt r p (takeAllAt l p b[p]?)
    rw [takeR_get h.1, takeAll_get h.2]
/-- at a place, taking back hands out always the same, or what is there (or nought), or leaves things alone -/
theorem takeAt_cases (r : Rec) (p : Nat) : (∃ c, ∀ x, takeAt r p x = c) ∨ (∀ x, takeAt r p x = some (x.getD 0)) := by
  unfold takeAt
  by_cases h1 : r.len.toNat ≤ p
  · exact .inl ⟨none, fun x => by rw [if_pos h1]⟩
  · by_cases h2 : r.off.toNat ≤ p ∧ p < r.off.toNat + r.old.length
    · exact .inl ⟨_, fun x => by rw [if_neg h1, if_pos h2]⟩
    · exact .inr fun x => by rw [if_neg h1, if_neg h2]
theorem takeAllAt_cases (p : Nat) : ∀ l : List Rec, (∃ c, ∀ x, takeAllAt l p x = c) ∨ (∀ x, takeAllAt l p x = some (x.getD 0)) ∨ (∀ x, takeAllAt l p x = x)
  | [] => .inr (.inr fun _ => rfl)
  | r :: l => by
    rcases takeAt_cases r p with ⟨c, h⟩ | h
    · exact .inl ⟨c, fun x => h _⟩
    · rcases takeAllAt_cases p l with ⟨c, h'⟩ | h' | h'
      · exact .inl ⟨some (c.getD 0), fun x => by show takeAt r p (takeAllAt l p x) = _; rw [h', h]⟩
      · exact .inr (.inl fun x => by show takeAt r p (takeAllAt l p x) = _; rw [h', h]; simp)
      · exact .inr (.inl fun x => by show takeAt r p (takeAllAt l p x) = _; rw [h', h])
theorem takeAll_idem {b : List UInt8} {l : List Rec} (h : (l.all Rec.ok) = true) : takeAll (takeAll b l) l = takeAll b l := by
  apply List.ext_getElem?
  intro p
  rw [takeAll_get h, takeAll_get h]
  rcases takeAllAt_cases p l with ⟨c, h'⟩ | h' | h'
  · rw [h', h']
  · rw [h', h']; simp
  · rw [h']
theorem recover_idem {b : List UInt8} {l : List Rec} (h : (recover b l).2 = 0) : recover (recover b l).1 l = recover b l := by
  unfold recover at h ⊢
  cases ha : l.all Rec.ok
  · rw [ha] at h; simp at h
  · simp [takeAll_idem ha]
end Go.Un
