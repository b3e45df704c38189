/- Undo: what a record takes back. No program in sight. -/
import Derived.Test.YteefimjgcabpoaaUt
namespace Go.Un
open Go Go.RowKit Go.Bs Go.Cl Go.Rw
theorem takeAll_snoc (b : List UInt8) (l : List Rec) (r : Rec) : takeAll b (l ++ [r]) = takeAll (takeR b r) l := by simp [takeAll]
theorem takeAll_nil (b : List UInt8) : takeAll b [] = b := rfl
/-- r takes the image b' back to b -/
def Undoes (r : Rec) (b' b : List UInt8) : Prop := r.ok = true ∧ takeR b' r = b
theorem list_ext {a b : List UInt8} (h : ∀ p : Nat, a[p]? = b[p]?) : a = b := List.ext_getElem? h
theorem undoes_write {img : List UInt8} {m : Nat} {d : List UInt8} (hl : img.length ≤ 24000) (h : m + d.length ≤ img.length) (t : List UInt8) (ht : t.length = img.length) (hout : ∀ p, (p < m ∨ m + d.length ≤ p) → t[p]? = img[p]?) :
    Undoes ⟨m, img.length, (img.take (m + d.length)).drop m⟩ t img := by
  have hold : ((img.take (m + d.length)).drop m).length = d.length := by simp; omega
  have hok : (⟨m, img.length, (img.take (m + d.length)).drop m⟩ : Rec).ok = true := by rw [Rec.ok_iff]; simp only [hold]; omega
  refine ⟨hok, list_ext fun p => ?_⟩
  show (Un.written (sized t (img.length : Int).toNat) (m : Int).toNat _)[p]? = _
  rw [Int.toNat_natCast, Int.toNat_natCast, written_get (by rw [sized_len, hold]; omega), sized_get, hold]
  by_cases h1 : m ≤ p ∧ p < m + d.length
  · rw [if_pos h1, List.getElem?_drop, List.getElem?_take, if_pos (by omega)]
    congr 1; omega
  · rw [if_neg h1]
    by_cases h2 : img.length ≤ p
    · rw [if_pos h2, List.getElem?_eq_none h2]
    · rw [if_neg h2, hout p (by omega)]
      rw [List.getElem?_eq_getElem (by omega)]
      rfl
theorem undoes_resize {img : List UInt8} {n : Nat} (hl : img.length ≤ 24000) : Undoes ⟨((min n img.length : Nat) : Int), img.length, img.drop (min n img.length)⟩ (sized img n) img := by
  have hold : (img.drop (min n img.length)).length = img.length - min n img.length := by simp
  have hok : (⟨((min n img.length : Nat) : Int), img.length, img.drop (min n img.length)⟩ : Rec).ok = true := by rw [Rec.ok_iff]; simp only [hold]; omega
  refine ⟨hok, list_ext fun p => ?_⟩
  show (Un.written (sized (sized img n) (img.length : Int).toNat) ((min n img.length : Nat) : Int).toNat _)[p]? = _
  rw [Int.toNat_natCast, Int.toNat_natCast, written_get (by rw [sized_len, hold]; omega), sized_get, hold, sized_get]
  by_cases h1 : min n img.length ≤ p ∧ p < min n img.length + (img.length - min n img.length)
  · rw [if_pos h1, List.getElem?_drop]
    congr 1; omega
  · rw [if_neg h1]
    by_cases h2 : img.length ≤ p
    · rw [if_pos h2, List.getElem?_eq_none h2]
    · rw [if_neg h2, if_neg (by omega), List.getElem?_eq_getElem (by omega)]
      rfl
/-- the images ahead of each record, and behind the last one -/
def Chain (img : List UInt8) (rs : List Rec) (past : List (List UInt8)) : Prop :=
  past.length = rs.length ∧ rs.all Rec.ok = true ∧ ∀ j, j < rs.length → past[j]? = some (takeAll img (rs.drop j))
theorem Chain.nil (img : List UInt8) : Chain img [] [] := ⟨rfl, rfl, fun j h => by simp at h⟩
theorem Chain.snoc {img img' : List UInt8} {rs : List Rec} {past : List (List UInt8)} {r : Rec} (h : Chain img rs past) (hr : Undoes r img' img) : Chain img' (rs ++ [r]) (past ++ [img]) := by
  obtain ⟨h1, h2, h3⟩ := h
  refine ⟨by simp [h1], by simp [h2, hr.1], fun j hj => ?_⟩
  simp at hj
  by_cases e : j = rs.length
  · subst e
    rw [← h1, List.getElem?_append_right (Nat.le_refl _), h1, List.drop_append_of_le_length (Nat.le_refl _), List.drop_length]
    simp [takeAll, hr.2]
  · rw [List.getElem?_append_left (by omega), h3 j (by omega), List.drop_append_of_le_length (by omega), takeAll_snoc, hr.2]
theorem Chain.take {img : List UInt8} {rs : List Rec} {past : List (List UInt8)} (h : Chain img rs past) {n : Nat} (hn : n ≤ rs.length) : Chain (takeAll img (rs.drop n)) (rs.take n) (past.take n) := by
  obtain ⟨h1, h2, h3⟩ := h
  refine ⟨by simp [h1], ?_, fun j hj => ?_⟩
  · rw [List.all_eq_true] at h2 ⊢
    exact fun x hx => h2 x (List.mem_of_mem_take hx)
  · rw [List.length_take] at hj
    rw [List.getElem?_take, if_pos (by omega), h3 j (by omega)]
    congr 1
    have : rs.drop j = (rs.take n).drop j ++ rs.drop n := by
      conv => lhs; rw [← List.take_append_drop n rs]
      rw [List.drop_append_of_le_length (by simp; omega)]
    rw [this]
    simp [takeAll]
end Go.Un
