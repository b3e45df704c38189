/- time: what messages lead to -/
import Derived.Test.YtdelemmoiaiooaaVa
namespace Go.Ti
open Go Go.RowKit Go.Bs Go.Cl Go.Rw Go.Wi
theorem take_alarm {l : List Int} {q t a1 a2 a3 : Int} (hu : usr t = true) : takeT l ⟨0, 10, 4, q, t, a1, a2, a3⟩ = some (delT l t, if t ∈ l then [reply t 0] else []) := by simp [takeT, hu]
theorem take_free {l : List Int} {q t a1 a2 a3 : Int} (hu : usr t = true) : takeT l ⟨3, 10, 16, q, t, a1, a2, a3⟩ = some (delT l t, (if t ∈ l then [timer (-1) t] else []) ++ [send 3 17 t]) := by simp [takeT, hu]
theorem take_sleep {l : List Int} {q t n a2 a3 : Int} (hu : usr t = true) (ht : t ∉ l) (h1 : 1 ≤ n) (h2 : n ≤ 1000000) : takeT l ⟨t, 10, 1, q, 19, n, a2, a3⟩ = some (insT l t, [timer n t]) := by
  have e1 : ¬ n < 0 := by omega
  have e2 : ¬ 1000000 < n := by omega
  have e3 : ¬ n = 0 := by omega
  simp [takeT, sysT, hu, ht, e1, e2, e3]
theorem take_other {l l' : List Int} {m : Ms} {es : List Ef} {o : Int} (h : takeT l m = some (l', es)) (h1 : o ≠ m.src) (h2 : o ≠ m.a0) : (o ∈ l' ↔ o ∈ l) := by
  unfold takeT sysT at h
  repeat' split at h
  all_goals first
    | (cases h; done)
    | (cases h; exact Iff.rfl)
    | (cases h; rw [ins_mem]; simp [h1])
    | (cases h; rw [del_mem]; simp [h2])
def tkT (m : Ms) : Int := if m.kind = 4 ∨ m.kind = 16 then m.a0 else m.src
theorem take_local {l k : List Int} {m : Ms} (h : tkT m ∈ l ↔ tkT m ∈ k) : (takeT l m = none ∧ takeT k m = none) ∨ ∃ l' k' es, takeT l m = some (l', es) ∧ takeT k m = some (k', es) ∧ (tkT m ∈ l' ↔ tkT m ∈ k') := by
  have h0 := h
  unfold takeT sysT
  by_cases hd : m.dst ≠ 10
  · simp [hd]
  simp only [hd, if_false]
  by_cases h6 : m.kind = 6 ∧ m.src = 1
  · simp only [h6, and_self, if_true]; right; exact ⟨_, _, _, rfl, rfl, h0⟩
  simp only [h6, if_false]
  by_cases h1 : m.kind = 1
  · have et : tkT m = m.src := by unfold tkT; rw [h1]; simp
    rw [et] at h h0 ⊢
    simp only [h1, if_true]
    by_cases hu : usr m.src = false ∨ m.src ∈ l
    · have hu' : usr m.src = false ∨ m.src ∈ k := by rw [← h]; exact hu
      simp [hu, hu']
    · have hu' : ¬ (usr m.src = false ∨ m.src ∈ k) := by rw [← h]; exact hu
      simp only [hu, hu', if_false]
      repeat' split
      all_goals first
        | exact .inr ⟨_, _, _, rfl, rfl, h0⟩
        | exact .inl ⟨rfl, rfl⟩
        | exact .inr ⟨_, _, _, rfl, rfl, by rw [ins_mem, ins_mem]; simp⟩
  simp only [h1, if_false]
  by_cases h4 : m.kind = 4 ∧ m.src = 0 ∧ usr m.a0 = true
  · have et : tkT m = m.a0 := by unfold tkT; rw [if_pos (.inl h4.1)]
    rw [et] at h h0 ⊢
    simp only [h4, and_self, if_true, h]
    exact .inr ⟨_, _, _, rfl, rfl, by rw [del_mem, del_mem]; simp⟩
  simp only [h4, if_false]
  by_cases h16 : m.kind = 16 ∧ m.src = 3 ∧ usr m.a0 = true
  · have et : tkT m = m.a0 := by unfold tkT; rw [if_pos (.inr h16.1)]
    rw [et] at h h0 ⊢
    simp only [h16, and_self, if_true, h]
    exact .inr ⟨_, _, _, rfl, rfl, by rw [del_mem, del_mem]; simp⟩
  simp [h16]
theorem stp_enc {l : List Int} {m : Ms} {l' : List Int} {es : List Ef} (h : stpT (encS l) m = .ok (l', es)) : validT l = true ∧ takeT l m = some (l', es) := by
  have h2 := stp_ok h
  rw [decT_encS] at h2
  cases hv : validT l with
  | true => rw [hv] at h2; exact ⟨rfl, h2.2⟩
  | false => rw [stp_bad hv] at h; cases h
theorem stp_none {l : List Int} {m : Ms} (hv : validT l = true) (h : takeT l m = none) : stpT (encS l) m = .error 23 := by
  unfold stpT
  rw [decT_encS, hv]
  simp [h]
theorem back_list {l : List Int} (hv : validT l = true) {t : Int} (ht : t ∉ l) : delT (insT l t) t = l :=
  asc_eq (del_asc (ins_asc (valid_asc hv) ht) t) (valid_asc hv) (fun x => by
    rw [del_mem, ins_mem]
    constructor
    · rintro ⟨h1, h2⟩; exact h2.resolve_left h1
    · intro h; exact ⟨fun e => ht (e ▸ h), .inr h⟩)
end Go.Ti
