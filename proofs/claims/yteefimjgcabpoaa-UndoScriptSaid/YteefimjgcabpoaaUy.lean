/- Undo: images kept beside a log -/
import Derived.Test.YteefimjgcabpoaaUx
namespace Go.Un
open Go Go.RowKit Go.Bs Go.Cl Go.Rw
/-- a write or a resizing: an error, or a record that can be taken back -/
theorem stp_wr {img : List UInt8} {rs : List Rec} {op n : Int} {d : List UInt8} (hop : op = 1 ∨ op = 2) (hg : goodS ⟨op, n, d⟩ = true) (hil : img.length ≤ 2000) :
    (∃ e : Int, (e == 0) = false ∧ (e != 0) = true ∧ stp ⟨img, rs, true⟩ op n d = (⟨img, rs, true⟩, e)) ∨ ∃ img' r, stp ⟨img, rs, true⟩ op n d = (⟨img', rs ++ [r], true⟩, 0) ∧ Undoes r img' img ∧ img'.length ≤ 2000 := by
  rcases hop with rfl | rfl
  · by_cases hb : n < 0 ∨ (img.length : Int) < n ∨ (img.length : Int) - n < d.length
    · exact .inl ⟨2, rfl, rfl, stp_write_bad hb⟩
    · obtain ⟨m, rfl⟩ : ∃ m : Nat, n = m := ⟨n.toNat, by omega⟩
      have h1 : m + d.length ≤ img.length := by omega
      exact .inr ⟨_, _, stp_write hb, undoes_write (by omega) h1 _ (written_len h1) (fun p hp => by rw [written_get h1, if_neg (by omega)]), by rw [written_len h1]; omega⟩
  · by_cases h1 : n < 0
    · exact .inl ⟨2, rfl, rfl, stp_resize_neg h1⟩
    by_cases h2 : 24000 < n
    · exact .inl ⟨6, rfl, rfl, stp_resize_big h1 h2⟩
    · obtain ⟨m, rfl⟩ : ∃ m : Nat, n = m := ⟨n.toNat, by omega⟩
      have := goodS_n hg rfl (by simp only; omega)
      simp only at this
      exact .inr ⟨_, _, stp_resize h2, undoes_resize (by omega), by rw [sized_len]; omega⟩
/-- a row of images, apart from the blocks G -/
structure PastAt (w : World) (base : Nat) (G : List Nat) (pv : Value) (pvs : List (List UInt8 × Value)) : Prop where
  row : w.ownsRow base 22 1 pv pvs.length (pvs.map (·.2))
  off : ∀ r, pv.ownBlock = some r → r ∉ G
  by' : ∀ p ∈ pvs, Bytes (pv.ownBlock.toList ++ G) w p.2 p.1
variable {w w' : World} {base g : Nat} {iv rv pv : Value} {img : List UInt8} {rs : List (Rec × Value)} {pvs : List (List UInt8 × Value)}
theorem PastAt.keep {G G' : List Nat} (h : PastAt w base G pv pvs) (hk : Keep G w w') (hG : ∀ f ∈ G', f ∈ G ∨ w.heap.size ≤ f) : PastAt w' base G' pv pvs :=
  ⟨own_keep h.row hk h.off, fun r hr hm => by
    rcases hG r hm with h1 | h1
    · exact h.off r hr h1
    · have := (h.row.lt r hr).2; omega, fun p hp => (h.by' p hp).keep hk (fun f hf => .inl (List.mem_append_right _ hf)) (fun f hf => by
      rcases List.mem_append.1 hf with hf | hf
      · exact .inl (List.mem_append_left _ hf)
      · rcases hG f hf with h1 | h1
        · exact .inl (List.mem_append_right _ h1)
        · exact .inr h1)⟩
theorem PastAt.push {G : List Nat} {pv' v : Value} {l : List UInt8} (h : PastAt w base G pv pvs) (hrow : w'.ownsRow base 22 1 pv' (pvs.length + 1) (pvs.map (·.2) ++ [v])) (hk : Keep pv.ownBlock.toList w w')
    (hn : ∀ f ∈ pv'.ownBlock.toList, f ∈ pv.ownBlock.toList ∨ w.heap.size ≤ f) (hv : Bytes (pv.ownBlock.toList ++ G) w v l) (hG : ∀ f ∈ G, f < w.heap.size) : PastAt w' base G pv' (pvs ++ [(l, v)]) :=
  ⟨by simpa using hrow, fun r hr hm => by
    rcases hn r (by simp [hr]) with h1 | h1
    · exact h.off r (by simpa using h1) hm
    · have := hG r hm; omega, fun p hp => by
    have hp' : Bytes (pv.ownBlock.toList ++ G) w p.2 p.1 := by
      rcases List.mem_append.1 hp with hp | hp
      · exact h.by' p hp
      · rw [List.mem_singleton.1 hp]; exact hv
    refine hp'.keep hk (fun f hf => .inl (List.mem_append_left _ hf)) (fun f hf => ?_)
    rcases List.mem_append.1 hf with hf | hf
    · rcases hn f hf with h1 | h1
      · exact .inl (List.mem_append_left _ h1)
      · exact .inr h1
    · exact .inl (List.mem_append_right _ hf)⟩
/-- a log, the images, and the records' bytes apart from the row of images -/
structure PI (w : World) (base g : Nat) (iv rv : Value) (img : List UInt8) (rs : List (Rec × Value)) (pv : Value) (pvs : List (List UInt8 × Value)) : Prop where
  log : LogAt w base g iv rv img rs true
  past : PastAt w base (LogF g iv rv) pv pvs
  olds : ∀ p ∈ rs, Bytes pv.ownBlock.toList w p.2 p.1.old
theorem PI.below (h : PI w base g iv rv img rs pv pvs) (hb : Below w.heap.size w w') : PI w' base g iv rv img rs pv pvs :=
  ⟨h.log.below hb, h.past.keep (Keep.of_below' hb) (fun f hf => .inl hf), fun p hp => Raw.below (h.olds p hp) hb⟩
theorem PI.push {pv' v : Value} {l : List UInt8} (h : PI w base g iv rv img rs pv pvs) (hrow : w'.ownsRow base 22 1 pv' (pvs.length + 1) (pvs.map (·.2) ++ [v])) (hk : Keep pv.ownBlock.toList w w')
    (hn : ∀ f ∈ pv'.ownBlock.toList, f ∈ pv.ownBlock.toList ∨ w.heap.size ≤ f) (hv : Bytes (pv.ownBlock.toList ++ LogF g iv rv) w v l) : PI w' base g iv rv img rs pv' (pvs ++ [(l, v)]) := by
  have hoff : ∀ r, r ∈ LogF g iv rv → r ∉ pv.ownBlock.toList := fun r hr hm => h.past.off r (by simpa using hm) hr
  have hL := h.log
  refine ⟨⟨hL.hg, (hk.block g hL.lt (hoff g (by simp [LogF]))).trans hL.hc, own_keep hL.hi hk (fun r hr => hoff r (by simp [LogF, hr])), hL.hr.keep hk (fun r hr => hoff r (by simp [LogF, hr])), fun p hp => ?_⟩,
    h.past.push hrow hk hn hv (fun f hf => (hL.fbase f hf).2), fun p hp => (h.olds p hp).keep hk (fun f hf => .inl hf) hn⟩
  exact Raw.keep (Raw.both (h.olds p hp) (hL.hb p hp)) hk (fun f hf => .inl (List.mem_append_left _ hf)) (fun f hf => .inl (List.mem_append_right _ hf))
end Go.Un
namespace Go.Proofs.Yteefimjgcabpoaa
open Go.RowKit Go.Bs Go.Cl Go.Rw Go.Un
theorem el46 : Rw.Elem Try.prog 46 22 1 24 (.slice none 0 0) := ⟨Try.underlying46, by kernel_rfl, rfl, by decide⟩
theorem PI.step {w w' : World} {base g : Nat} {iv rv pv : Value} {img img' : List UInt8} {rs : List (Rec × Value)} {rs' : List Rec} {pvs : List (List UInt8 × Value)} (h : PI w base g iv rv img rs pv pvs) (hs : StepP w base g iv rv rs img' rs' true w') :
    ∃ iv' rv' ts, ts.map (·.1) = rs' ∧ PI w' base g iv' rv' img' ts pv pvs ∧ Keep (LogF g iv rv) w w' := by
  obtain ⟨iv', rv', ts, e, h1, h2, h3, h4⟩ := hs
  exact ⟨iv', rv', ts, e, ⟨h1, h.past.keep h2 h3, h4 _ (fun f hf => (h.past.row.lt f (by simpa using hf)).2) h.olds⟩, h2⟩
theorem LogAt.steps {w w' W0 : World} {base g B : Nat} {iv rv : Value} {img : List UInt8} {rs : List (Rec × Value)} {o : Bool} (h : LogAt w base g iv rv img rs o) (hk : Keep (LogF g iv rv) w w') (hB : B ≤ base) (hBw : base ≤ w.heap.size) (hb : Below B W0 w) : Below B W0 w' :=
  hb.trans (hk.below (by omega) (fun f hf => by have := (h.fbase f hf).1; omega))
end Go.Proofs.Yteefimjgcabpoaa
namespace Go.Un
open Go Go.RowKit Go.Bs Go.Cl Go.Rw
theorem takeAll_append (b : List UInt8) (l m : List Rec) : takeAll b (l ++ m) = takeAll (takeAll b m) l := by simp [takeAll]
theorem Chain.at {img : List UInt8} {rs : List Rec} {past : List (List UInt8)} (h : Chain img rs past) {j : Nat} (hj : j ≤ rs.length) : (past ++ [img])[j]? = some (takeAll img (rs.drop j)) := by
  obtain ⟨h1, _, h3⟩ := h
  by_cases e : j = rs.length
  · subst e
    rw [← h1, List.getElem?_append_right (Nat.le_refl _), h1, List.drop_length]
    simp [takeAll]
  · rw [List.getElem?_append_left (by omega), h3 j (by omega)]
theorem Chain.first {img b : List UInt8} {rs : List Rec} {past : List (List UInt8)} (h : Chain img rs past) (h0 : (past ++ [img])[0]? = some b) : takeAll img rs = b := by
  have := h.at (Nat.zero_le _)
  rw [h0, List.drop_zero] at this
  exact (Option.some.inj this).symm
/-- the start: one image -/
theorem PI.start {w : World} {base g : Nat} {iv rv v : Value} {img : List UInt8} (h : LogAt w base g iv rv img [] true) (hv : Bytes (LogF g iv rv) w v img) (hbase : base ≤ w.heap.size) :
    PI (w.alloc (.cells #[v] 22)) base g iv rv img [] (.slice (some ⟨w.heap.size, 0, none⟩) 1 1) [(img, v)] := by
  have hb := (Below.refl w.heap.size w).alloc (Nat.le_refl _) (.cells #[v] 22)
  refine ⟨h.below hb, ⟨⟨by simp, .inr ⟨w.heap.size, 1, #[v], rfl, hbase, heap_alloc_new w _, Nat.le_refl _, by unfold maxLen; simp, by simp, by simp⟩⟩, fun r hr hm => ?_, fun p hp => ?_⟩, fun p hp => by cases hp⟩
  · simp [Value.ownBlock] at hr; subst hr
    have := (h.fbase _ hm).2; omega
  · rw [List.mem_singleton.1 hp]
    refine Raw.keep hv (Keep.of_below' (F := []) hb) (fun f hf => by cases hf) (fun f hf => ?_)
    rcases List.mem_append.1 hf with hf | hf
    · simp [Value.ownBlock] at hf; exact .inr (by omega)
    · exact .inl hf
theorem PastAt.len {w : World} {base : Nat} {G : List Nat} {pv : Value} {pvs : List (List UInt8 × Value)} (h : PastAt w base G pv pvs) (h0 : 0 < pvs.length) : ∃ q c, pv = .slice (some ⟨q, 0, none⟩) pvs.length c ∧ q < w.heap.size ∧ (∃ c e f, w.heap[q]? = some (.cells c e f)) := by
  rcases own_cases h.row with ⟨_, h1, _⟩ | ⟨q, c, h1, _, h2, _⟩
  · omega
  · obtain ⟨cur, hc⟩ := own_type h.row (r := q) (by rw [h1]; rfl)
    exact ⟨q, c, h1, h2, _, _, _, hc⟩
theorem takeAll_short {b : List UInt8} (hb : b.length ≤ 24000) : ∀ {l : List Rec}, l.all Rec.ok = true → (takeAll b l).length ≤ 24000
  | [], _ => hb
  | r :: l, h => by
    simp only [List.all_cons, Bool.and_eq_true] at h
    show (takeR (takeAll b l) r).length ≤ 24000
    rw [takeR_len h.1]
    have := Rec.ok_iff.1 h.1
    omega
theorem all_drop {l : List Rec} (h : l.all Rec.ok = true) (n : Nat) : (l.drop n).all Rec.ok = true := List.all_eq_true.2 fun x hx => List.all_eq_true.1 h x (List.mem_of_mem_drop hx)
end Go.Un
