/- Undo: plain: the reference's model of a log -/
import Derived.Test.YteefimjgcabpoaaUy
namespace Go.Un
open Go Go.RowKit Go.Bs Go.Cl Go.Rw
structure Md where
  img : List UInt8
  past : List (List UInt8)
  rs : List Rec
  fin : Bool
/-- a step of the model, and the error -/
def nxt (m : Md) (op n : Int) (d : List UInt8) : Md × Int :=
  if op = 0 then (if m.fin then (m, 7) else (⟨m.img, m.past, m.rs, true⟩, 0))
  else if m.fin = false then (m, 7)
  else if op = 1 then (if n < 0 ∨ (m.img.length : Int) < n ∨ (m.img.length : Int) - n < d.length then (m, 2) else (⟨written m.img n.toNat d, m.past ++ [m.img], m.rs ++ [⟨n, m.img.length, (m.img.take (n.toNat + d.length)).drop n.toNat⟩], true⟩, 0))
  else if op = 2 then (if n < 0 then (m, 2) else if 24000 < n then (m, 6) else (⟨sized m.img n.toNat, m.past ++ [m.img], m.rs ++ [⟨((min n.toNat m.img.length : Nat) : Int), m.img.length, m.img.drop (min n.toNat m.img.length)⟩], true⟩, 0))
  else if op = 3 then (if n < 0 ∨ (m.rs.length : Int) < n then (m, 2) else (⟨if n.toNat < m.rs.length then m.past.getD n.toNat [] else m.img, m.past.take n.toNat, m.rs.take n.toNat, true⟩, 0))
  else if op = 4 then (⟨m.img, [], [], false⟩, 0)
  else (⟨if 0 < m.past.length then m.past.getD 0 [] else m.img, [], [], false⟩, 0)
def Md.ok (m : Md) : Prop := Chain m.img m.rs m.past ∧ m.img.length ≤ 2000 ∧ ∀ p ∈ m.past, p.length ≤ 2000
def Md.st (m : Md) : St := ⟨m.img, m.rs, m.fin⟩
theorem Md.getD_le {m : Md} (h : m.ok) (k : Nat) : (m.past.getD k []).length ≤ 2000 := by
  rw [List.getD_eq_getElem?_getD]
  cases hh : m.past[k]? with
  | none => simp
  | some x => exact h.2.2 x (List.mem_of_getElem? hh)
theorem Md.back {m : Md} (h : m.ok) {k : Nat} (hk : k ≤ m.rs.length) : (if k < m.rs.length then m.past.getD k [] else m.img) = takeAll m.img (m.rs.drop k) := by
  by_cases hlt : k < m.rs.length
  · rw [if_pos hlt, List.getD_eq_getElem?_getD, h.1.2.2 k hlt]; rfl
  · rw [if_neg hlt, List.drop_of_length_le (by omega)]; rfl
theorem nxt_stp {m : Md} {op n : Int} {d : List UInt8} (h : m.ok) (hg : goodS ⟨op, n, d⟩ = true) :
    stp m.st op n d = ((nxt m op n d).1.st, (nxt m op n d).2) ∧ (nxt m op n d).1.ok ∧ (nxt m op n d).1.rs.length ≤ m.rs.length + 1 := by
  obtain ⟨img, past, rs, fin⟩ := m
  have hl := h.1.1
  simp only at hl
  by_cases h0 : op = 0
  · subst h0
    cases fin <;> simp [stp, nxt, Md.st, h]
    exact h
  cases fin
  · simp [stp, nxt, Md.st, h0, h]
  by_cases h12 : op = 1 ∨ op = 2
  · have hs : ∀ img' r, Undoes r img' img → img'.length ≤ 2000 → (⟨img', past ++ [img], rs ++ [r], true⟩ : Md).ok := fun img' r hu hi =>
      ⟨h.1.snoc hu, hi, fun p hp => by
        rcases List.mem_append.1 hp with hp | hp
        · exact h.2.2 p hp
        · rw [List.mem_singleton.1 hp]; exact h.2.1⟩
    have hi := h.2.1
    simp only at hi
    rcases h12 with rfl | rfl
    · by_cases hb : n < 0 ∨ (img.length : Int) < n ∨ (img.length : Int) - n < d.length
      · simp [stp, nxt, Md.st, hb, h]
      · obtain ⟨k, rfl⟩ : ∃ k : Nat, n = k := ⟨n.toNat, by omega⟩
        have h1 : k + d.length ≤ img.length := by omega
        simp only [stp, nxt, Md.st]
        simp only [hb, if_false, Int.toNat_natCast]
        exact ⟨rfl, hs _ _ (undoes_write (by omega) h1 _ (written_len h1) (fun p hp => by rw [written_get h1, if_neg (by omega)])) (by rw [written_len h1]; omega), by simp⟩
    · by_cases h1 : n < 0
      · simp [stp, nxt, Md.st, h1, h]
      by_cases h2 : 24000 < n
      · simp [stp, nxt, Md.st, h1, h2, h]
      · obtain ⟨k, rfl⟩ : ∃ k : Nat, n = k := ⟨n.toNat, by omega⟩
        have := goodS_n hg rfl (by simp only; omega)
        simp only at this
        simp only [stp, nxt, Md.st]
        simp only [h1, h2, if_false]
        exact ⟨rfl, hs _ _ (undoes_resize (by omega)) (by rw [sized_len]; omega), by simp⟩
  have n1 : ¬ op = 1 := fun e => h12 (.inl e)
  have n2 : ¬ op = 2 := fun e => h12 (.inr e)
  by_cases h3 : op = 3
  · subst h3
    by_cases hb : n < 0 ∨ (rs.length : Int) < n
    · simp [stp, nxt, Md.st, hb, h]
    · obtain ⟨k, rfl⟩ : ∃ k : Nat, n = k := ⟨n.toNat, by omega⟩
      have hkl : k ≤ rs.length := by omega
      have hbk := Md.back h (k := k) hkl
      simp only at hbk
      simp only [stp, nxt, Md.st]
      simp only [hb, if_false, Int.toNat_natCast, hbk]
      refine ⟨rfl, ⟨h.1.take hkl, ?_, fun p hp => h.2.2 p (List.mem_of_mem_take hp)⟩, by simp; omega⟩
      show (takeAll img (rs.drop k)).length ≤ 2000
      rw [← hbk]
      split
      · exact Md.getD_le h k
      · exact h.2.1
  by_cases h4 : op = 4
  · subst h4
    simp [stp, nxt, Md.st]
    exact ⟨Chain.nil _, h.2.1, fun p hp => by cases hp⟩
  · have hbk := Md.back h (k := 0) (Nat.zero_le _)
    simp only [List.drop_zero] at hbk
    have e : (if 0 < past.length then past.getD 0 [] else img) = takeAll img rs := by rw [hl]; exact hbk
    simp only [stp, nxt, Md.st]
    simp only [h0, n1, n2, h3, h4, if_false, e]
    refine ⟨rfl, ⟨Chain.nil _, ?_, fun p hp => by cases hp⟩, by simp⟩
    show (takeAll img rs).length ≤ 2000
    rw [← hbk]
    split
    · exact Md.getD_le h 0
    · exact h.2.1
end Go.Un
