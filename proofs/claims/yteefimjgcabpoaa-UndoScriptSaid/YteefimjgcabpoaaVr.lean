/- Undo: the reference's model, any step; a log beside the model -/
import Derived.Test.YteefimjgcabpoaaVq
import Derived.Test.YteefimjgcabpoaaVk
namespace Go.Un
open Go Go.RowKit Go.Bs Go.Cl Go.Rw
variable {w w' : World} {base g : Nat} {iv rv : Value} {img : List UInt8} {rs : List (Rec × Value)} {o : Bool}
theorem LogAt.keep' {G : List Nat} (h : LogAt w base g iv rv img rs o) (hk : Keep G w w') (hG : ∀ f ∈ LogF g iv rv, f ∉ G) (hbb : ∀ p ∈ rs, Bytes (LogF g iv rv) w' p.2 p.1.old) : LogAt w' base g iv rv img rs o :=
  ⟨h.hg, (hk.block _ h.lt (hG g (by simp [LogF]))).trans h.hc, own_keep h.hi hk (fun r hr => hG r (by simp [LogF, hr])), h.hr.keep hk (fun r hr => hG r (by simp [LogF, hr])), hbb⟩
/-- a log and the model beside it, in the box G -/
structure Sc (N : Nat) (W : World) (G g : Nat) (iv rv : Value) (rs : List (Rec × Value)) (mi mp mr : Value) (m : Md) : Prop where
  log : LogAt W N g iv rv m.img rs m.fin
  rsm : rs.map (·.1) = m.rs
  box : W.heap[G]? = some (.cells #[mi, mp, mr, .bool m.fin] 48 (0, 0))
  hG : G ∉ LogF g iv rv
  md : MdAt (G :: LogF g iv rv) W mi mp mr m
  olds : ∀ p ∈ rs, Bytes [G] W p.2 p.1.old
  hGN : N ≤ G
variable {N G : Nat} {W W' : World} {mi mp mr : Value} {m : Md}
theorem Sc.gs (h : Sc N W G g iv rv rs mi mp mr m) : G < W.heap.size := (Array.getElem?_eq_some_iff.1 h.box).1
theorem Sc.lt (h : Sc N W G g iv rv rs mi mp mr m) : ∀ f ∈ G :: LogF g iv rv, f < W.heap.size := fun f hf => by
  rcases List.mem_cons.1 hf with rfl | hf
  · exact h.gs
  · exact (h.log.fbase f hf).2
theorem Sc.below (h : Sc N W G g iv rv rs mi mp mr m) (hb : Below W.heap.size W W') : Sc N W' G g iv rv rs mi mp mr m :=
  ⟨h.log.below hb, h.rsm, (hb.block _ h.gs).trans h.box, h.hG, h.md.below hb, fun p hp => Raw.below (h.olds p hp) hb, h.hGN⟩
/-- beside the log and the model, the next model lies in the box G2 -/
structure Sd (N : Nat) (W0 W : World) (G G2 g : Nat) (iv rv : Value) (rs : List (Rec × Value)) (mi mp mr : Value) (m : Md) (ni np nr : Value) (n : Md) : Prop where
  sc : Sc N W G g iv rv rs mi mp mr m
  box : W.heap[G2]? = some (.cells #[ni, np, nr, .bool n.fin] 48 (0, 0))
  md : MdAt (G2 :: G :: LogF g iv rv) W ni np nr n
  hn : W0.heap.size ≤ G2
  bel : Below W0.heap.size W0 W
variable {W0 : World} {G2 : Nat} {ni np nr : Value} {n : Md}
theorem Sd.mk1 {w1 : World} (h : Sc N W0 G g iv rv rs mi mp mr m) (hb : Below W0.heap.size W0 w1) (hm : MdAt (G :: LogF g iv rv) w1 ni np nr n) :
    Sd N W0 (w1.alloc (.cells #[ni, np, nr, .bool n.fin] 48)) G w1.heap.size g iv rv rs mi mp mr m ni np nr n := by
  have al := (Below.refl w1.heap.size w1).alloc (Nat.le_refl _) (.cells #[ni, np, nr, .bool n.fin] 48)
  have hbb := hb.trans (al.mono hb.size)
  exact ⟨h.below hbb, heap_alloc_new w1 _, hm.keep (G := []) (Keep.of_below' al) (fun f hf => by cases hf) (fun f hf => by
    rcases List.mem_cons.1 hf with rfl | hf
    · exact .inr (Nat.le_refl _)
    · exact .inl hf), hb.size, hbb⟩
theorem Sd.mk2 {w1 : World} {Z : Obj} (h : Sc N W0 G g iv rv rs mi mp mr m) (hb : Below (W0.alloc Z).heap.size (W0.alloc Z) w1) (hZ : Z = .cells #[.slice none 0 0, .slice none 0 0, .slice none 0 0, .bool false] 48) (hm : MdAt (W0.heap.size :: G :: LogF g iv rv) w1 ni np nr n) :
    Sd N W0 ((((w1.setCell ⟨W0.heap.size, 0, none⟩ ni).setCell ⟨W0.heap.size, 1, none⟩ np).setCell ⟨W0.heap.size, 2, none⟩ nr).setCell ⟨W0.heap.size, 3, none⟩ (.bool n.fin)) G W0.heap.size g iv rv rs mi mp mr m ni np nr n := by
  have al := (Below.refl W0.heap.size W0).alloc (Nat.le_refl _) Z
  have hz := (hb.block W0.heap.size (by simp)).trans (heap_alloc_new W0 Z)
  rw [hZ] at hz
  have hbb := al.trans (hb.mono al.size)
  have hk : Keep [W0.heap.size] w1 ((((w1.setCell ⟨W0.heap.size, 0, none⟩ ni).setCell ⟨W0.heap.size, 1, none⟩ np).setCell ⟨W0.heap.size, 2, none⟩ nr).setCell ⟨W0.heap.size, 3, none⟩ (.bool n.fin)) := ((((Keep.refl [W0.heap.size] w1).setCell (by simp) _).setCell (by simp) _).setCell (by simp) _).setCell (by simp) _
  have hb2 := hbb.trans (hk.below hbb.size (fun f hf => by rw [List.mem_singleton.1 hf]; exact Nat.le_refl _))
  exact ⟨h.below hb2, heap_set4 hz _ _ _ _, hm.keep hk (fun f hf => .inl (by rw [List.mem_singleton.1 hf]; simp)) (fun f hf => .inl hf), Nat.le_refl _, hb2⟩
end Go.Un
namespace Go.Proofs.Yteefimjgcabpoaa
open Go.RowKit Go.Bs Go.Cl Go.Rw Go.Un
/-- the log makes its step, and the model becomes the next one -/
theorem sd_next {N G G2 g : Nat} {W W0 : World} {iv rv mi mp mr ni np nr : Value} {m n : Md} {rs : List (Rec × Value)} {w2 : World} {rs' : List Rec} (h : Sd N W0 W G G2 g iv rv rs mi mp mr m ni np nr n) (hs0 : Sc N W0 G g iv rv rs mi mp mr m) (hst : StepP W N g iv rv rs n.img rs' n.fin w2) (hrs : rs' = n.rs) :
    (w2.heap[G2]? = some (.cells #[ni, np, nr, .bool n.fin] 48 (0, 0)) ∧ w2.heap[G]? = some (.cells #[mi, mp, mr, .bool m.fin] 48 (0, 0))) ∧ ∃ iv' rv' rs2, Sc N ((((w2.setCell ⟨G, 0, none⟩ ni).setCell ⟨G, 1, none⟩ np).setCell ⟨G, 2, none⟩ nr).setCell ⟨G, 3, none⟩ (.bool n.fin)) G g iv' rv' rs2 ni np nr n ∧
      ∀ B, B ≤ N → Below B W ((((w2.setCell ⟨G, 0, none⟩ ni).setCell ⟨G, 1, none⟩ np).setCell ⟨G, 2, none⟩ nr).setCell ⟨G, 3, none⟩ (.bool n.fin)) := by
  obtain ⟨iv2, rv2, rs2, hm2, hl2, hk2, hF2, hfr⟩ := hst
  have hLW0 : ∀ f ∈ LogF g iv rv, f < W0.heap.size := fun f hf => (hs0.log.fbase f hf).2
  have hG2L : G2 ∉ LogF g iv rv := fun hm => by have := hLW0 _ hm; have := h.hn; omega
  have hG2s : G2 < W.heap.size := (Array.getElem?_eq_some_iff.1 h.box).1
  have hGs := h.sc.gs
  have hGL := h.sc.hG
  have hGL2 : G ∉ LogF g iv2 rv2 := fun hm => by
    rcases hF2 G hm with h1 | h1
    · exact hGL h1
    · omega
  have e2 := (hk2.block G2 hG2s hG2L).trans h.box
  have e1 := (hk2.block G hGs hGL).trans h.sc.box
  have hk : Keep [G] w2 ((((w2.setCell ⟨G, 0, none⟩ ni).setCell ⟨G, 1, none⟩ np).setCell ⟨G, 2, none⟩ nr).setCell ⟨G, 3, none⟩ (.bool n.fin)) := ((((Keep.refl [G] w2).setCell (by simp) _).setCell (by simp) _).setCell (by simp) _).setCell (by simp) _
  have hin : ∀ f ∈ [G], f ∈ G :: LogF g iv2 rv2 ∨ w2.heap.size ≤ f := fun f hf => .inl (by rw [List.mem_singleton.1 hf]; simp)
  have hold : ∀ p ∈ rs2, Bytes [G] w2 p.2 p.1.old := hfr [G] (fun f hf => by rw [List.mem_singleton.1 hf]; exact hGs) (fun p hp => h.sc.olds p hp)
  have hmd : MdAt (G :: LogF g iv2 rv2) w2 ni np nr n := h.md.keep hk2 (fun f hf => .inl (by simp [hf])) (fun f hf => by
    rcases List.mem_cons.1 hf with rfl | hf
    · exact .inl (by simp)
    · exact (hF2 f hf).imp (fun h => by simp [h]) id)
  refine ⟨⟨e2, e1⟩, iv2, rv2, rs2, ⟨hl2.keep' hk (fun f hf hm => ?_) (fun p hp => ?_), by rw [hm2, hrs], heap_set4 e1 _ _ _ _, hGL2, hmd.keep hk hin (fun f hf => .inl hf), fun p hp => ?_, h.sc.hGN⟩, fun B hB => ?_⟩
  · rw [List.mem_singleton] at hm; subst hm; exact hGL2 hf
  · exact (Raw.both (hold p hp) (hl2.hb p hp)).keep hk (fun f hf => .inl (by rw [List.mem_singleton.1 hf]; simp)) (fun f hf => .inl (List.mem_append_right _ hf))
  · exact (hold p hp).keep hk (fun f hf => .inl hf) (fun f hf => .inl hf)
  · have b1 : Below B W w2 := hk2.below (by have := h.sc.log.lt; have := h.sc.log.hg; omega) (fun f hf => Nat.le_trans hB (h.sc.log.fbase f hf).1)
    have hBW : B ≤ W.heap.size := by have := h.sc.log.lt; have := h.sc.log.hg; omega
    exact b1.trans (hk.below (Nat.le_trans hBW b1.size) (fun f hf => by rw [List.mem_singleton.1 hf]; exact Nat.le_trans hB h.sc.hGN))
theorem next_any {F : List Nat} (iv pv rv dv : Value) (m : Md) (op n : Int) (d : List UInt8) (w : World) (hF : ∀ f ∈ F, f < w.heap.size) (hok : m.ok) (hrl : m.rs.length ≤ 1000) (hdl : d.length ≤ 1000000) (hn1 : -9223372036854775808 ≤ n) (hn2 : n ≤ 9223372036854775807) (h : MdAt F w iv pv rv m) (hd : Bytes [] w dv d) :
    Calls Try.prog 20 #[.agg #[iv, pv, rv, .bool m.fin], .agg #[.int .i64 op, .int .i64 n, dv]] w (NX F w (nxt m op n d)) := by
  have hl := hok.1.1
  have hi := hok.2.1
  by_cases h0 : op = 0
  · subst h0; exact next_begin iv pv rv dv m n d w h hd
  cases hf : m.fin
  · have := next_closed iv pv rv dv m op n d w h0 hf h hd
    rwa [hf] at this
  rw [← hf]
  by_cases h1 : op = 1
  · subst h1; exact next_write iv pv rv dv m n d w hF (by omega) (by omega) hrl hdl hn1 hn2 hf h hd
  by_cases h2 : op = 2
  · subst h2; exact next_resize iv pv rv dv m n d w hF (by omega) (by omega) hrl hdl hn1 hn2 hf h hd
  by_cases h3 : op = 3
  · subst h3; exact next_back iv pv rv dv m n d w hl (by omega) hn1 hn2 hf h hd
  by_cases h4 : op = 4
  · subst h4; exact next_commit iv pv rv dv m n d w hf h hd
  exact next_roll iv pv rv dv m op n d w h0 h1 h2 h3 h4 hf h hd
end Go.Proofs.Yteefimjgcabpoaa
