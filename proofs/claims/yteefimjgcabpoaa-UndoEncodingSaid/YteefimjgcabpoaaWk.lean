/- A reader beside a row that grows. No program in sight. -/
import Derived.Test.YteefimjgcabpoaaWj
namespace Go.Wi
open Go Go.RowKit Go.Bs Go.Cl Go.Rw
variable {α : Type} {enc : α → List Value} {k : Nat} {T e : TypeId} {w w' : World} {base g : Nat} {rv ov : Value} {b : List UInt8} {s : Nat × Bool} {l : List α}
structure RdO (enc : α → List Value) (k : Nat) (T e : TypeId) (w : World) (base g : Nat) (rv : Value) (b : List UInt8) (s : Nat × Bool) (ov : Value) (l : List α) : Prop where
  rd : RdAt T w g rv b s.1 s.2
  row : w.ownsRow base e k ov l.length (l.flatMap enc)
  off : ∀ f ∈ ov.ownBlock.toList, f ≠ g
  by' : Bytes ov.ownBlock.toList w rv b
theorem RdO.start (h : RdAt T w g rv b s.1 s.2) : RdO enc k T e w base g rv b s (.slice none 0 0) [] :=
  ⟨h, World.ownsRow_nil _ _ _ _, fun f hf => by simp [Value.ownBlock] at hf, Raw.to_nil h.hb⟩
theorem RdO.below (h : RdO enc k T e w base g rv b s ov l) (hb : Below w.heap.size w w') : RdO enc k T e w' base g rv b s ov l :=
  ⟨h.rd.below hb, own_below h.row hb (Nat.le_refl _), h.off, Raw.below h.by' hb⟩
theorem RdO.read {s' : Nat × Bool} (h : RdO enc k T e w base g rv b s ov l) (hr : RdR T w g rv b s' w') : RdO enc k T e w' base g rv b s' ov l :=
  ⟨hr.1, own_keep h.row hr.2 (fun r hr hm => h.off r (by simp [hr]) (List.mem_singleton.1 hm)), h.off, Raw.keep (Raw.both h.by' h.rd.hb) hr.2 (fun f hf => .inl (List.mem_append_right _ hf)) (fun f hf => .inl (List.mem_append_left _ hf))⟩
theorem RdO.push {ov' : Value} {x : α} (h : RdO enc k T e w base g rv b s ov l) (hrow : w'.ownsRow base e k ov' (l.length + 1) (l.flatMap enc ++ enc x)) (hk : Keep ov.ownBlock.toList w w') (hn : ∀ f ∈ ov'.ownBlock.toList, f ∈ ov.ownBlock.toList ∨ w.heap.size ≤ f) :
    RdO enc k T e w' base g rv b s ov' (l ++ [x]) :=
  ⟨h.rd.keep hk (fun hm => h.off g hm rfl) h.by', by simpa using hrow, fun f hf => by
    rcases hn f hf with h1 | h1
    · exact h.off f h1
    · have := h.rd.lt; omega, Raw.keep h.by' hk (fun f hf => .inl hf) hn⟩
/-- what lies below the reader and the row is as it was -/
theorem RdO.low {B : Nat} {W : World} {ov' : Value} (h : RdO enc k T e w base g rv b s ov l) (hk : Keep ov.ownBlock.toList w w') (hB : B ≤ base) (hbw : base ≤ w.heap.size) (hb : Below B W w) : Below B W w' :=
  hb.trans (hk.below (by omega) (fun f hf => by have := (h.row.lt f (by simpa using hf)).1; omega))
theorem RdR.low {B : Nat} {W : World} (hr : RdR T w g rv b s w') (hB : B ≤ g) (hBw : B ≤ w.heap.size) (hb : Below B W w) : Below B W w' :=
  hb.trans (hr.2.below hBw (fun f hf => by rw [List.mem_singleton.1 hf]; exact hB))
theorem rB_bound (b : List UInt8) {lo hi : Int} (h0 : lo ≤ 0) (h1 : 0 ≤ hi) (s : Nat × Bool) : lo ≤ (rB b lo hi s).1 ∧ (rB b lo hi s).1 ≤ hi := by
  unfold rB
  split
  · exact ⟨h0, h1⟩
  · cases h : rdB b s.1 lo hi with
    | none => exact ⟨h0, h1⟩
    | some q => obtain ⟨x, m⟩ := q; exact (rdB_some h).2
/-- reading what was written -/
theorem rI_enc {n : Int} (h : fits n) {b p t : List UInt8} (hb : b = p ++ (encI n ++ t)) : rI b (p.length, false) = (n, (p ++ encI n).length, false) := by
  have : rdI b p.length = some (n, (encI n).length) := rdI_enc h (t := t) (by rw [hb]; simp)
  rw [rI_some this]; simp
theorem rB_enc {n lo hi : Int} (h : fits n) (h1 : lo ≤ n ∧ n ≤ hi) {b p t : List UInt8} (hb : b = p ++ (encI n ++ t)) : rB b lo hi (p.length, false) = (n, (p ++ encI n).length, false) := by
  have : rdI b p.length = some (n, (encI n).length) := rdI_enc h (t := t) (by rw [hb]; simp)
  rw [rB_in this h1]; simp
/-- a block made later, written -/
theorem RdO.set {x : Nat} (h : RdO enc k T e w base g rv b s ov l) (hB : Bytes [x] w rv b) (hr : ∀ f ∈ ov.ownBlock.toList, f ≠ x) (hg : x ≠ g) (hk : Keep [x] w w') : RdO enc k T e w' base g rv b s ov l :=
  ⟨h.rd.keep hk (by simp; exact fun e => hg e.symm) hB, own_keep h.row hk (fun r hr' hm => hr r (by simp [hr']) (List.mem_singleton.1 hm)), h.off, Raw.keep (Raw.both h.by' hB) hk (fun f hf => .inl (List.mem_append_right _ hf)) (fun f hf => .inl (List.mem_append_left _ hf))⟩
theorem RdO.apart {x : Nat} (h : RdO enc k T e w base g rv b s ov l) (hx : w.heap.size ≤ x) : Bytes [x] w rv b := Raw.fresh h.by' (fun f hf => by rw [List.mem_singleton.1 hf]; exact .inr hx)
theorem RdO.rows {x : Nat} (h : RdO enc k T e w base g rv b s ov l) (hx : w.heap.size ≤ x) : ∀ f ∈ ov.ownBlock.toList, f ≠ x := fun f hf e => by have := (h.row.lt f (by simpa using hf)).2; omega
theorem bytes_read {x : Nat} {s' : Nat × Bool} {s : Nat × Bool} (h : RdAt T w g rv b s.1 s.2) (hB : Bytes [x] w rv b) (hr : RdR T w g rv b s' w') : Bytes [x] w' rv b :=
  Raw.keep (Raw.both hB h.hb) hr.2 (fun f hf => .inl (List.mem_append_right _ hf)) (fun f hf => .inl (List.mem_append_left _ hf))
end Go.Wi
