/- time: the law's world -/
import Derived.Test.YtdelemmoiaiooaaVd
namespace Go.Ti
open Go Go.RowKit Go.Bs Go.Cl Go.Rw Go.Wi
/-- the law's world -/
structure Wd where
  L : List Int
  now : Int
  due : Nat → Int
  en : Nat → Int
  ans : Nat → Int
  freed : Int
  failed : Bool
def upd (f : Nat → Int) (k : Nat) (x : Int) : Nat → Int := fun j => if j = k then x else f j
theorem upd_same (f : Nat → Int) (k : Nat) (x : Int) : upd f k x k = x := by simp [upd]
theorem upd_other (f : Nat → Int) {k j : Nat} (h : j ≠ k) (x : Int) : upd f k x j = f j := by simp [upd, h]
def wcs (iv : Value) (S : Wd) (j : Nat) : Value :=
  if j = 0 then iv else if j = 1 then .int .i64 S.now else if j < 34 then .int .i64 (S.due (j - 2)) else if j < 66 then .int .i64 (S.en (j - 34))
  else if j < 98 then .int .i64 (S.ans (j - 66)) else if j = 98 then .int .i64 S.freed else .bool S.failed
def wcells (iv : Value) (S : Wd) : Array Value := Array.ofFn (n := 100) fun j => wcs iv S j.val
def WdAt (w : World) (g : Nat) (iv : Value) (S : Wd) : Prop := w.heap[g]? = some (.cells (wcells iv S) 54 (0, 0))
theorem wcells_size (iv : Value) (S : Wd) : (wcells iv S).size = 100 := by simp [wcells]
theorem wcells_get (iv : Value) (S : Wd) {j : Nat} (hj : j < 100) : (wcells iv S)[j]? = some (wcs iv S j) := by
  simp [wcells, Array.getElem?_ofFn, hj]
variable {w w' : World} {g : Nat} {iv : Value} {S : Wd}
theorem WdAt.lt (h : WdAt w g iv S) : g < w.heap.size := (Array.getElem?_eq_some_iff.1 h).1
theorem WdAt.keep {F : List Nat} (h : WdAt w g iv S) (hk : Keep F w w') (hF : g ∉ F) : WdAt w' g iv S := (hk.block g h.lt hF).trans h
theorem WdAt.below (h : WdAt w g iv S) (hb : Below w.heap.size w w') : WdAt w' g iv S := (hb.block g h.lt).trans h
theorem WdAt.cell (h : WdAt w g iv S) {j : Nat} (hj : j < 100) : w.cell? ⟨g, j, none⟩ = some (wcs iv S j) := box_at h (wcells_get iv S hj)
theorem WdAt.free (h : WdAt w g iv S) (j : Nat) : w.frozen? ⟨g, j, none⟩ = false := box_free h j
theorem WdAt.img (h : WdAt w g iv S) : w.cell? ⟨g, 0, none⟩ = some iv := h.cell (j := 0) (by omega)
theorem WdAt.now (h : WdAt w g iv S) : w.cell? ⟨g, 1, none⟩ = some (.int .i64 S.now) := h.cell (j := 1) (by omega)
theorem wcs_due {t : Nat} (ht : t < 32) : wcs iv S (2 + t) = .int .i64 (S.due t) := by
  unfold wcs
  rw [if_neg (by omega), if_neg (by omega), if_pos (by omega), show 2 + t - 2 = t by omega]
theorem wcs_en {t : Nat} (ht : t < 32) : wcs iv S (34 + t) = .int .i64 (S.en t) := by
  unfold wcs
  rw [if_neg (by omega), if_neg (by omega), if_neg (by omega), if_pos (by omega), show 34 + t - 34 = t by omega]
theorem wcs_ans {t : Nat} (ht : t < 32) : wcs iv S (66 + t) = .int .i64 (S.ans t) := by
  unfold wcs
  rw [if_neg (by omega), if_neg (by omega), if_neg (by omega), if_neg (by omega), if_pos (by omega), show 66 + t - 66 = t by omega]
theorem WdAt.cdue (h : WdAt w g iv S) {t : Nat} (ht : t < 32) : w.cell? ⟨g, 2 + t, none⟩ = some (.int .i64 (S.due t)) := by rw [h.cell (by omega), wcs_due ht]
theorem WdAt.cen (h : WdAt w g iv S) {t : Nat} (ht : t < 32) : w.cell? ⟨g, 34 + t, none⟩ = some (.int .i64 (S.en t)) := by rw [h.cell (by omega), wcs_en ht]
theorem WdAt.cans (h : WdAt w g iv S) {t : Nat} (ht : t < 32) : w.cell? ⟨g, 66 + t, none⟩ = some (.int .i64 (S.ans t)) := by rw [h.cell (by omega), wcs_ans ht]
theorem WdAt.cfreed (h : WdAt w g iv S) : w.cell? ⟨g, 98, none⟩ = some (.int .i64 S.freed) := h.cell (j := 98) (by omega)
theorem WdAt.cfailed (h : WdAt w g iv S) : w.cell? ⟨g, 99, none⟩ = some (.bool S.failed) := h.cell (j := 99) (by omega)
theorem WdAt.set (h : WdAt w g iv S) {j : Nat} (hj : j < 100) {v iv' : Value} {S' : Wd} (hs : ∀ k, k < 100 → wcs iv' S' k = if k = j then v else wcs iv S k) : WdAt (w.setCell ⟨g, j, none⟩ v) g iv' S' := by
  unfold WdAt at h ⊢
  rw [heap_setCell_same w g j _ 54 v h]
  have he : (wcells iv S).setIfInBounds j v = wcells iv' S' := by
    apply Array.ext_getElem?
    intro i
    rw [Array.getElem?_setIfInBounds, wcells_size]
    by_cases hi : i < 100
    · rw [wcells_get iv' S' hi, hs i hi]
      by_cases hij : i = j
      · subst hij; simp [hi]
      · rw [if_neg (fun e => hij e.symm), if_neg hij, wcells_get iv S hi]
    · rw [if_neg (by omega), Array.getElem?_eq_none (by rw [wcells_size]; omega), Array.getElem?_eq_none (by rw [wcells_size]; omega)]
  rw [he]
theorem wcs_cases {iv iv' v : Value} {S S' : Wd} {j : Nat} (h0 : iv' = if 0 = j then v else iv) (h1 : Value.int .i64 S'.now = if 1 = j then v else .int .i64 S.now)
    (h2 : ∀ t, t < 32 → Value.int .i64 (S'.due t) = if 2 + t = j then v else .int .i64 (S.due t)) (h3 : ∀ t, t < 32 → Value.int .i64 (S'.en t) = if 34 + t = j then v else .int .i64 (S.en t))
    (h4 : ∀ t, t < 32 → Value.int .i64 (S'.ans t) = if 66 + t = j then v else .int .i64 (S.ans t)) (h5 : Value.int .i64 S'.freed = if 98 = j then v else .int .i64 S.freed) (h6 : Value.bool S'.failed = if 99 = j then v else .bool S.failed) :
    ∀ k, k < 100 → wcs iv' S' k = if k = j then v else wcs iv S k := by
  intro k hk
  by_cases k0 : k = 0
  · subst k0; exact h0
  by_cases k1 : k = 1
  · subst k1; exact h1
  by_cases k2 : k < 34
  · obtain ⟨t, rfl⟩ : ∃ t, k = 2 + t := ⟨k - 2, by omega⟩
    rw [wcs_due (by omega), wcs_due (by omega)]; exact h2 t (by omega)
  by_cases k3 : k < 66
  · obtain ⟨t, rfl⟩ : ∃ t, k = 34 + t := ⟨k - 34, by omega⟩
    rw [wcs_en (by omega), wcs_en (by omega)]; exact h3 t (by omega)
  by_cases k4 : k < 98
  · obtain ⟨t, rfl⟩ : ∃ t, k = 66 + t := ⟨k - 66, by omega⟩
    rw [wcs_ans (by omega), wcs_ans (by omega)]; exact h4 t (by omega)
  by_cases k5 : k = 98
  · subst k5; exact h5
  · obtain rfl : k = 99 := by omega
    exact h6
theorem WdAt.setImg (h : WdAt w g iv S) (v : Value) (l : List Int) : WdAt (w.setCell ⟨g, 0, none⟩ v) g v { S with L := l } :=
  h.set (by omega) (wcs_cases (by simp) (by simp) (fun t _ => by rw [if_neg (by omega)]) (fun t _ => by rw [if_neg (by omega)]) (fun t _ => by rw [if_neg (by omega)]) (by simp) (by simp))
theorem WdAt.setNow (h : WdAt w g iv S) (x : Int) : WdAt (w.setCell ⟨g, 1, none⟩ (.int .i64 x)) g iv { S with now := x } :=
  h.set (by omega) (wcs_cases (by simp) (by simp) (fun t _ => by rw [if_neg (by omega)]) (fun t _ => by rw [if_neg (by omega)]) (fun t _ => by rw [if_neg (by omega)]) (by simp) (by simp))
theorem upd_val (f : Nat → Int) (k t o : Nat) (x : Int) : Value.int .i64 (upd f k x t) = if o + t = o + k then .int .i64 x else .int .i64 (f t) := by
  by_cases h : t = k
  · subst h; simp [upd]
  · rw [if_neg (by omega), upd_other f h]
theorem WdAt.setDue (h : WdAt w g iv S) {k : Nat} (hk : k < 32) (x : Int) : WdAt (w.setCell ⟨g, 2 + k, none⟩ (.int .i64 x)) g iv { S with due := upd S.due k x } :=
  h.set (by omega) (wcs_cases (by rw [if_neg (by omega)]) (by rw [if_neg (by omega)]) (fun t _ => upd_val _ _ _ _ _) (fun t _ => by rw [if_neg (by omega)]) (fun t _ => by rw [if_neg (by omega)]) (by rw [if_neg (by omega)]) (by rw [if_neg (by omega)]))
theorem WdAt.setEn (h : WdAt w g iv S) {k : Nat} (hk : k < 32) (x : Int) : WdAt (w.setCell ⟨g, 34 + k, none⟩ (.int .i64 x)) g iv { S with en := upd S.en k x } :=
  h.set (by omega) (wcs_cases (by rw [if_neg (by omega)]) (by rw [if_neg (by omega)]) (fun t _ => by rw [if_neg (by omega)]) (fun t _ => upd_val _ _ _ _ _) (fun t _ => by rw [if_neg (by omega)]) (by rw [if_neg (by omega)]) (by rw [if_neg (by omega)]))
theorem WdAt.setAns (h : WdAt w g iv S) {k : Nat} (hk : k < 32) (x : Int) : WdAt (w.setCell ⟨g, 66 + k, none⟩ (.int .i64 x)) g iv { S with ans := upd S.ans k x } :=
  h.set (by omega) (wcs_cases (by rw [if_neg (by omega)]) (by rw [if_neg (by omega)]) (fun t _ => by rw [if_neg (by omega)]) (fun t _ => by rw [if_neg (by omega)]) (fun t _ => upd_val _ _ _ _ _) (by rw [if_neg (by omega)]) (by rw [if_neg (by omega)]))
theorem WdAt.setFreed (h : WdAt w g iv S) (x : Int) : WdAt (w.setCell ⟨g, 98, none⟩ (.int .i64 x)) g iv { S with freed := x } :=
  h.set (by omega) (wcs_cases (by simp) (by simp) (fun t _ => by rw [if_neg (by omega)]) (fun t _ => by rw [if_neg (by omega)]) (fun t _ => by rw [if_neg (by omega)]) (by simp) (by simp))
theorem WdAt.setFailed (h : WdAt w g iv S) (x : Bool) : WdAt (w.setCell ⟨g, 99, none⟩ (.bool x)) g iv { S with failed := x } :=
  h.set (by omega) (wcs_cases (by simp) (by simp) (fun t _ => by rw [if_neg (by omega)]) (fun t _ => by rw [if_neg (by omega)]) (fun t _ => by rw [if_neg (by omega)]) (by simp) (by simp))
/-- the effects of a message on the world -/
def effS (S : Wd) (e : Ef) : Wd :=
  if e.k = 2 then { S with ans := upd S.ans e.a0.toNat (S.ans e.a0.toNat + 1), failed := S.failed || (decide (S.en e.a0.toNat ≠ 0) && decide (S.en e.a0.toNat ≠ S.now)), en := upd S.en e.a0.toNat 0 }
  else if e.k = 4 then { S with due := upd S.due e.a1.toNat (if 0 ≤ e.a0 then S.now + e.a0 else 0) }
  else { S with freed := S.freed + 1 }
def okE (e : Ef) : Prop := (∃ (t : Nat) (r : Int), t < 32 ∧ e = reply t r) ∨ (∃ (t : Nat) (n : Int), t < 32 ∧ -1 ≤ n ∧ n ≤ 1000000 ∧ e = timer n t) ∨ (∃ a : Int, e = send 3 17 a)
structure Bnd (S : Wd) (k : Nat) : Prop where
  n0 : 0 ≤ S.now
  n1 : S.now ≤ 1000000
  a0 : ∀ t, t < 32 → 0 ≤ S.ans t
  a1 : ∀ t, t < 32 → S.ans t ≤ 1000000 + k
  f0 : 0 ≤ S.freed
  f1 : S.freed ≤ 1000000 + k
theorem Bnd.eff {S : Wd} {k : Nat} (h : Bnd S k) (e : Ef) : Bnd (effS S e) (k + 1) := by
  obtain ⟨n0, n1, a0, a1, f0, f1⟩ := h
  unfold effS
  split
  · refine ⟨n0, n1, fun t ht => ?_, fun t ht => ?_, f0, by simp only; omega⟩ <;> simp only [upd] <;> split
    · subst_vars; have := a0 _ ht; omega
    · exact a0 t ht
    · subst_vars; have := a1 _ ht; omega
    · have := a1 t ht; omega
  · split
    · exact ⟨n0, n1, a0, fun t ht => by have := a1 t ht; simp only; omega, f0, by simp only; omega⟩
    · exact ⟨n0, n1, a0, fun t ht => by have := a1 t ht; simp only; omega, by simp only; omega, by simp only; omega⟩
end Go.Ti
