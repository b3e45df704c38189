/- time: plain; user -/
import Derived.Test.YtdelemmoiaiooaaM1
namespace Go.Ti
open Go Go.RowKit Go.Bs Go.Cl Go.Rw
/-- a user task -/
def usr (t : Int) : Bool := decide (16 ≤ t) && decide (t < 32)
def encT (x : Int) : List Value := [.int .i64 x]
theorem encT_len (x : Int) : (encT x).length = 1 := rfl
def at_ (l : List Int) (k : Nat) : Int := l.getD k 0
theorem at_get {l : List Int} {k : Nat} (h : k < l.length) : l[k]? = some (at_ l k) := by simp [at_, h]
theorem encT_one (l : List Int) : ∀ u ∈ l.flatMap encT, u.oneCell' = true := by
  intro u hu
  obtain ⟨x, _, h⟩ := List.mem_flatMap.1 hu
  simp [encT] at h
  rw [h]; rfl
def SlT (w : World) (v : Value) (l : List Int) : Prop := Raw [] 1 w v l.length (l.flatMap encT)
theorem SlT.below {w w' : World} {v : Value} {l : List Int} (h : SlT w v l) (hb : Below w.heap.size w w') : SlT w' v l := Raw.below h hb
theorem SlT.elem {w : World} {a : Option Addr} {n c : Nat} {l : List Int} (h : SlT w (.slice a n c) l) {i : Nat} (hi : i < l.length) :
    ∃ b off, a = some ⟨b, off, none⟩ ∧ b < w.heap.size ∧ w.cell? ⟨b, off + i, none⟩ = some (.int .i64 (at_ l i)) := by
  have hget := at_get hi
  rcases Raw.cases h with ⟨h0, _⟩ | ⟨_, b, off, cap, hv, _, _, hb, _, hc⟩
  · omega
  · cases hv
    have := hc _ _ (flat_get encT encT_len l i 0 _ hget (by omega))
    exact ⟨b, off, rfl, hb, by simpa [encT] using this⟩
/-- the place k of a valid state -/
def okT (l : List Int) (k : Nat) : Bool := usr (at_ l k) && (decide (k = 0) || decide (at_ l (k - 1) < at_ l k))
def validT (l : List Int) : Bool := (List.range l.length).all (okT l)
theorem validT_false {l : List Int} {k : Nat} (hk : k < l.length) (h : okT l k = false) : validT l = false := by
  unfold validT
  rw [List.all_eq_false]
  exact ⟨k, List.mem_range.2 hk, by simp [h]⟩
theorem validT_true {l : List Int} (h : ∀ k, k < l.length → okT l k = true) : validT l = true := by
  unfold validT
  rw [List.all_eq_true]
  exact fun k hk => h k (List.mem_range.1 hk)
theorem validT_at {l : List Int} (h : validT l = true) {k : Nat} (hk : k < l.length) : okT l k = true := by
  unfold validT at h
  rw [List.all_eq_true] at h
  exact h k (List.mem_range.2 hk)
end Go.Ti
namespace Go.Proofs.Ytdelemmoiaiooaa
open Go.RowKit Go.Bs Go.Cl Go.Rw Go.Ti
theorem user_any (t : Int) (w : World) : Calls Try.prog 34 #[.int .i64 t] w fun e w' => e = .returned (.bool (usr t)) ∧ w = w' := by
  have hu : usr t = (decide (16 ≤ t) && decide (t < 32)) := rfl
  rw [hu]
  by_cases h1 : 16 ≤ t <;> by_cases h2 : t < 32 <;>
  · go_enter Try.func34, Try.ntmps34
    go_wp2
    go_ret
    exact ⟨by simp <;> omega, rfl⟩
theorem ruser_any (t : Int) (w : World) : Calls Try.prog 35 #[.int .i64 t] w fun e w' => e = .returned (.bool (usr t)) ∧ w = w' := by
  have hu : usr t = (decide (16 ≤ t) && decide (t < 32)) := rfl
  rw [hu]
  by_cases h1 : 16 ≤ t <;> by_cases h2 : t < 32 <;>
  · go_enter Try.func35, Try.ntmps35
    go_wp2
    go_ret
    exact ⟨by simp <;> omega, rfl⟩
end Go.Proofs.Ytdelemmoiaiooaa
