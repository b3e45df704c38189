/- Undo: the reference's model: what holds between the appends -/
import Derived.Test.YteefimjgcabpoaaVo
import Derived.Deep.CutRange
namespace Go.Un
open Go Go.RowKit Go.Bs Go.Cl Go.Rw
def B3 (w : World) : List Nat := [w.heap.size, w.heap.size + 1 + 1]
structure Mid (F : List Nat) (w W : World) (g : Nat) (iv pv rv : Value) (m : Md) (r : Rec) (ov v : Value) (img' : List UInt8) : Prop where
  box : W.heap[w.heap.size]? = some (.cells #[iv, pv, rv, .bool true] 48 (0, 0))
  res : W.heap[w.heap.size + 1 + 1]? = some (.cells #[.slice none 0 0, .slice none 0 0, .slice none 0 0, .bool false] 48 (0, 0))
  rcd : W.heap[g]? = some (.cells #[.int .i64 r.off, .int .i64 r.len, ov] 66 (0, 0))
  hg : w.heap.size + 1 + 1 < g
  md : MdAt (g :: B3 w ++ F) W iv pv rv m
  hv : Bytes (g :: B3 w ++ F) W v img'
  hov : Bytes (g :: B3 w ++ F) W ov r.old
  bel : Below w.heap.size w W
variable {F : List Nat} {w W W' : World} {g : Nat} {iv pv rv ov v : Value} {m : Md} {r : Rec} {img' : List UInt8}
theorem Mid.gs (h : Mid F w W g iv pv rv m r ov v img') : g < W.heap.size := (Array.getElem?_eq_some_iff.1 h.rcd).1
theorem Mid.keep {F' : List Nat} {G : List Nat} (h : Mid F w W g iv pv rv m r ov v img') (hk : Keep G W W') (hG : ∀ f ∈ G, f ∈ F' ∨ W.heap.size ≤ f) (hb : w.heap.size ∉ G) (hr : w.heap.size + 1 + 1 ∉ G) (hg : g ∉ G) (hw : ∀ f ∈ G, w.heap.size ≤ f)
    (hm : MdAt (g :: B3 w ++ F') W iv pv rv m) (hv : Bytes (g :: B3 w ++ F') W v img') (hov : Bytes (g :: B3 w ++ F') W ov r.old) : Mid F' w W' g iv pv rv m r ov v img' := by
  have hgs := h.gs
  have hgg := h.hg
  have hG' : ∀ f ∈ G, f ∈ g :: B3 w ++ F' ∨ W.heap.size ≤ f := fun f hf => (hG f hf).imp (fun h => List.mem_append_right _ h) id
  exact ⟨(hk.block _ (by omega) hb).trans h.box, (hk.block _ (by omega) hr).trans h.res, (hk.block _ hgs hg).trans h.rcd, h.hg, hm.keep hk hG' (fun f hf => .inl hf), hv.keep hk hG' (fun f hf => .inl hf), hov.keep hk hG' (fun f hf => .inl hf), h.bel.trans (hk.below h.bel.size hw)⟩
theorem Mid.below (h : Mid F w W g iv pv rv m r ov v img') (hb : Below W.heap.size W W') : Mid F w W' g iv pv rv m r ov v img' :=
  h.keep (G := []) (Keep.of_below' hb) (fun f hf => by cases hf) (by simp) (by simp) (by simp) (fun f hf => by cases hf) h.md h.hv h.hov
theorem Mid.set (h : Mid F w W g iv pv rv m r ov v img') (j : Nat) (u : Value) :
    (W.setCell ⟨w.heap.size, j, none⟩ u).heap[w.heap.size]? = some (.cells (#[iv, pv, rv, .bool true].setIfInBounds j u) 48 (0, 0)) ∧ Keep [w.heap.size] W (W.setCell ⟨w.heap.size, j, none⟩ u) :=
  ⟨heap_setCell_same W w.heap.size j _ 48 u h.box, (Keep.refl [w.heap.size] W).setCell (by simp) u⟩
theorem Mid.put (h : Mid F w W g iv pv rv m r ov v img') {j : Nat} {u iv2 pv2 rv2 : Value} {m2 : Md} (he : (#[iv, pv, rv, .bool true] : Array Value).setIfInBounds j u = #[iv2, pv2, rv2, .bool true]) (hm : MdAt (g :: B3 w ++ F) W iv2 pv2 rv2 m2) :
    Mid F w (W.setCell ⟨w.heap.size, j, none⟩ u) g iv2 pv2 rv2 m2 r ov v img' := by
  obtain ⟨h1, hk⟩ := h.set j u
  have hgs := h.gs
  have hgg := h.hg
  have hin : ∀ f ∈ [w.heap.size], f ∈ g :: B3 w ++ F ∨ W.heap.size ≤ f := fun f hf => .inl (by rw [List.mem_singleton.1 hf]; simp [B3])
  refine ⟨by rw [h1, he], (hk.block _ (by omega) (by simp; omega)).trans h.res, (hk.block _ hgs (by simp; omega)).trans h.rcd, h.hg, hm.keep hk hin (fun f hf => .inl hf), h.hv.keep hk hin (fun f hf => .inl hf), h.hov.keep hk hin (fun f hf => .inl hf), h.bel.setCell (Nat.le_refl _) u⟩
theorem Mid.lt (h : Mid F w W g iv pv rv m r ov v img') (hF : ∀ f ∈ F, f < w.heap.size) : ∀ f ∈ g :: B3 w ++ F, f < W.heap.size := fun f hf => by
  have hgs := h.gs
  have hgg := h.hg
  have hs := h.bel.size
  simp only [B3, List.cons_append, List.nil_append, List.mem_cons] at hf
  rcases hf with rfl | rfl | rfl | hf
  · exact hgs
  · omega
  · omega
  · have := hF f hf; omega
theorem Mid.start {u3 w4 : World} (H : MdAt F w iv pv rv m) (hF : ∀ f ∈ F, f < w.heap.size) (bel3 : Below w.heap.size w u3) (hsz : w.heap.size + 1 + 1 < u3.heap.size) (hA : u3.heap[w.heap.size]? = some (.cells #[iv, pv, rv, .bool true] 48 (0, 0)))
    (hC : u3.heap[w.heap.size + 1 + 1]? = some (.cells #[.slice none 0 0, .slice none 0 0, .slice none 0 0, .bool false] 48 (0, 0))) (hb4 : Below u3.heap.size u3 w4) (hv : Bytes (old u3) w4 v img') (hov : Bytes (old u3) w4 ov r.old) :
    Mid F w (w4.alloc (.cells #[.int .i64 r.off, .int .i64 r.len, ov] 66)) w4.heap.size iv pv rv m r ov v img' := by
  have hs4 := hb4.size
  have al := (Below.refl w4.heap.size w4).alloc (Nat.le_refl _) (.cells #[.int .i64 r.off, .int .i64 r.len, ov] 66)
  have hbW := hb4.trans (al.mono hs4)
  have bel := bel3.trans (hbW.mono bel3.size)
  have hl : ∀ f ∈ w4.heap.size :: B3 w ++ F, f < u3.heap.size ∨ w4.heap.size ≤ f := fun f hf => by
    simp only [B3, List.cons_append, List.nil_append, List.mem_cons] at hf
    rcases hf with rfl | rfl | rfl | hf
    · exact .inr (Nat.le_refl _)
    · exact .inl (by omega)
    · exact .inl hsz
    · exact .inl (by have := hF f hf; omega)
  refine ⟨(hbW.block _ (by omega)).trans hA, (hbW.block _ hsz).trans hC, heap_alloc_new w4 _, by omega, H.keep (G := []) (Keep.of_below' bel) (fun f hf => by cases hf) (fun f hf => ?_), Raw.below (Raw.apart' hv hl) al, Raw.below (Raw.apart' hov hl) al, bel⟩
  simp only [B3, List.cons_append, List.nil_append, List.mem_cons] at hf
  rcases hf with rfl | rfl | rfl | hf
  · exact .inr (by omega)
  · exact .inr (Nat.le_refl _)
  · exact .inr (by omega)
  · exact .inl hf
theorem Mid.rewrite {r0 : Rec} {ov0 v0 : Value} {img0 : List UInt8} (h : Mid F w W g iv pv rv m r0 ov0 v0 img0) (hv : Bytes (g :: B3 w ++ F) W v img') (hov : Bytes (g :: B3 w ++ F) W ov r.old) :
    Mid F w (((W.setCell ⟨g, 0, none⟩ (.int .i64 r.off)).setCell ⟨g, 1, none⟩ (.int .i64 r.len)).setCell ⟨g, 2, none⟩ ov) g iv pv rv m r ov v img' := by
  have hgs := h.gs
  have hgg := h.hg
  have hk : Keep [g] W (((W.setCell ⟨g, 0, none⟩ (.int .i64 r.off)).setCell ⟨g, 1, none⟩ (.int .i64 r.len)).setCell ⟨g, 2, none⟩ ov) := (((Keep.refl [g] W).setCell (by simp) _).setCell (by simp) _).setCell (by simp) _
  have hin : ∀ f ∈ [g], f ∈ g :: B3 w ++ F ∨ W.heap.size ≤ f := fun f hf => .inl (by rw [List.mem_singleton.1 hf]; simp)
  exact ⟨(hk.block _ (by omega) (by simp; omega)).trans h.box, (hk.block _ (by omega) (by simp; omega)).trans h.res, heap_set3 h.rcd _ _ _, hgg, h.md.keep hk hin (fun f hf => .inl hf), hv.keep hk hin (fun f hf => .inl hf), hov.keep hk hin (fun f hf => .inl hf), h.bel.trans (hk.below h.bel.size (fun f hf => by rw [List.mem_singleton.1 hf]; omega))⟩
theorem heap_set4 {w : World} {g : Nat} {x y z t4 : Value} {t : TypeId} (h : w.heap[g]? = some (.cells #[x, y, z, t4] t (0, 0))) (a b c d : Value) : ((((w.setCell ⟨g, 0, none⟩ a).setCell ⟨g, 1, none⟩ b).setCell ⟨g, 2, none⟩ c).setCell ⟨g, 3, none⟩ d).heap[g]? = some (.cells #[a, b, c, d] t (0, 0)) := by
  have h1 := heap_setCell_same w g 0 _ t a h
  have h2 := heap_setCell_same _ g 1 _ t b h1
  have h3 := heap_setCell_same _ g 2 _ t c h2
  have h4 := heap_setCell_same _ g 3 _ t d h3
  exact h4
/-- the model is handed out -/
theorem Mid.out (h : Mid F w W g iv pv rv m r ov v img') (a b c d : Value) {fin : Bool} : MdAt F ((((W.setCell ⟨w.heap.size + 1 + 1, 0, none⟩ a).setCell ⟨w.heap.size + 1 + 1, 1, none⟩ b).setCell ⟨w.heap.size + 1 + 1, 2, none⟩ c).setCell ⟨w.heap.size + 1 + 1, 3, none⟩ d) iv pv rv ⟨m.img, m.past, m.rs, fin⟩ ∧
    Below w.heap.size w ((((W.setCell ⟨w.heap.size + 1 + 1, 0, none⟩ a).setCell ⟨w.heap.size + 1 + 1, 1, none⟩ b).setCell ⟨w.heap.size + 1 + 1, 2, none⟩ c).setCell ⟨w.heap.size + 1 + 1, 3, none⟩ d) := by
  have hk : Keep [w.heap.size + 1 + 1] W ((((W.setCell ⟨w.heap.size + 1 + 1, 0, none⟩ a).setCell ⟨w.heap.size + 1 + 1, 1, none⟩ b).setCell ⟨w.heap.size + 1 + 1, 2, none⟩ c).setCell ⟨w.heap.size + 1 + 1, 3, none⟩ d) := ((((Keep.refl [w.heap.size + 1 + 1] W).setCell (by simp) _).setCell (by simp) _).setCell (by simp) _).setCell (by simp) _
  exact ⟨(h.md.keep hk (fun f hf => .inl (by rw [List.mem_singleton.1 hf]; simp [B3])) (fun f hf => .inl (List.mem_append_right _ hf))).fin _, h.bel.trans (hk.below h.bel.size (fun f hf => by rw [List.mem_singleton.1 hf]; omega))⟩
end Go.Un
