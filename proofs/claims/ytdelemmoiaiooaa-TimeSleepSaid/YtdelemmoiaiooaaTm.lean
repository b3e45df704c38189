/- time: Sort; sleeps, wake, system -/
import Derived.Test.YtdelemmoiaiooaaTl
import Derived.Test.YtdelemmoiaiooaaShelf
import Derived.Sort.Grow
import Derived.Deep.CutRange
import Derived.WalkMore
namespace Go.So
open Go Go.RowKit Go.Bs Go.Cl Go.Rw Go.Sort
variable {α : Type} [Inhabited α]
theorem heap_put (enc : α → Value) {w : World} {g e : Nat} {cur : Array Value} {fr : Nat × Nat} (h : w.heap[g]? = some (.cells cur e fr)) (q : Nat) (os : Array Obj) (d : Array α) :
    (grow (putRow enc (Sort.ahead w q) g 0 d) os).heap[g]? = some (.cells (putCells enc 0 d cur) e fr) := by
  have hlt := (Array.getElem?_eq_some_iff.1 h).1
  simp only [grow, putRow, mapBlock, Sort.ahead]
  rw [Array.getElem?_append_left (by simpa using hlt), Array.getElem?_modify, if_pos rfl, h]
  rfl
theorem keep_put (enc : α → Value) (w : World) (g q : Nat) (os : Array Obj) (d : Array α) : Keep [g] w (grow (putRow enc (Sort.ahead w q) g 0 d) os) where
  os := rfl
  tape := rfl
  output := rfl
  size := by simp [grow, putRow, mapBlock, Sort.ahead]
  block := fun k hk hn => by
    simp only [grow, putRow, mapBlock, Sort.ahead]
    rw [Array.getElem?_append_left (by simpa using hk), Array.getElem?_modify, if_neg (fun e => hn (by simp [e]))]
theorem putCells_size (enc : α → Value) (d : Array α) (c : Array Value) : (putCells enc 0 d c).size = c.size := by simp [putCells]
theorem putCells_take (enc : α → Value) (l : List α) (c : Array Value) (h : l.length ≤ c.size) : (putCells enc 0 l.toArray c).toList.take l.length = l.map enc := by
  apply List.ext_getElem?
  intro i
  rw [List.getElem?_take]
  by_cases hi : i < l.length
  · rw [if_pos hi, Array.getElem?_toList, putCells, Array.getElem?_mapIdx, Array.getElem?_eq_getElem (by omega), Option.map_some, if_pos ⟨by omega, by simpa using hi⟩, List.getElem?_map, List.getElem?_eq_getElem hi]
    simp [hi]
  · rw [if_neg hi]
    simp [List.getElem?_eq_none (show l.length ≤ i by omega)]
/-- a row of one's own, its cells written over -/
theorem own_put (enc : α → Value) {w : World} {base e g cap n : Nat} {xs : List Value} (h : w.ownsRow base e 1 (.slice (some ⟨g, 0, none⟩) n cap) n xs) (l : List α) (hl : l.length = n) (q : Nat) (os : Array Obj) :
    (grow (putRow enc (Sort.ahead w q) g 0 l.toArray) os).ownsRow base e 1 (.slice (some ⟨g, 0, none⟩) n cap) n (l.map enc) := by
  obtain ⟨h1, h2⟩ := h
  refine ⟨by simp [hl], ?_⟩
  rcases h2 with ⟨h2, _⟩ | ⟨g', cap', cur, hv, hb, hg, hn, hcm, hcs, ht⟩
  · cases h2
  · cases hv
    refine .inr ⟨g, cap, _, rfl, hb, heap_put enc hg q os _, hn, hcm, by rw [putCells_size]; exact hcs, ?_⟩
    have := putCells_take enc l cur (by omega)
    rw [← this, hl, Nat.mul_one]
theorem holds_own (enc : α → Value) {w : World} {base e g cap n : Nat} {l : List α} (h : w.ownsRow base e 1 (.slice (some ⟨g, 0, none⟩) n cap) n (l.map enc)) : Holds enc w g 0 l.toArray := by
  intro j hj
  have hj' : j < l.length := by simpa using hj
  refine ⟨?_, by rw [Nat.zero_add]; exact own_frozen h j⟩
  rw [Nat.zero_add, own_cell h rfl (u := enc l[j]) (by simp [hj'])]
  simp [hj']
end Go.So
namespace Go.Ti
open Go Go.RowKit Go.Bs Go.Cl Go.Rw Go.Wi
theorem encT_map (l : List Int) : l.flatMap encT = l.map (Value.int .i64) := by
  induction l with
  | nil => rfl
  | cons x l ih => rw [List.flatMap_cons, ih]; rfl
/-- the program's state at block s -/
structure St (w : World) (base s : Nat) (v : Value) (l : List Int) : Prop where
  box : w.heap[s]? = some (.cells #[v] 37 (0, 0))
  row : w.ownsRow base 3 1 v l.length (l.flatMap encT)
  ne : v.ownBlock ≠ some s
  lo : base ≤ s
theorem St.lt {w : World} {base s : Nat} {v : Value} {l : List Int} (h : St w base s v l) : s < w.heap.size := (Array.getElem?_eq_some_iff.1 h.box).1
theorem St.below {w w' : World} {base s : Nat} {v : Value} {l : List Int} (h : St w base s v l) (hb : Below w.heap.size w w') : St w' base s v l := ⟨(hb.block s h.lt).trans h.box, own_below h.row hb (Nat.le_refl _), h.ne, h.lo⟩
theorem St.keep {w w' : World} {base s : Nat} {v : Value} {l : List Int} {G : List Nat} (h : St w base s v l) (hk : Keep G w w') (hs : s ∉ G) (hv : ∀ r, v.ownBlock = some r → r ∉ G) : St w' base s v l := ⟨(hk.block s h.lt hs).trans h.box, own_keep h.row hk hv, h.ne, h.lo⟩
def msgC (m : Ms) (dv : Value) : Array Value := #[.int .i64 m.src, .int .i64 m.dst, .int .i64 m.kind, .int .i64 m.seq, .int .i64 m.a0, .int .i64 m.a1, .int .i64 m.a2, .int .i64 m.a3, dv]
/-- what a message leads to -/
def RetT (r : Option (List Int × List Ef)) (base s : Nat) (w : World) (e : Ending) (w' : World) : Prop := Below base w w' ∧ match r with
  | none => e = .returned (.tuple #[.slice none 0 0, .bool false])
  | some (l, es) => ∃ ev v, e = .returned (.tuple #[ev, .bool true]) ∧ SlE w' ev es ∧ St w' base s v l
theorem box1 {w : World} (g : Nat) (x : Ef) {t : TypeId} (h : w.heap[g]? = some (.cells (encE x).toArray t (0, 0))) : SlE w (.slice (some ⟨g, 0, none⟩) 1 1) [x] :=
  Raw.of_block (ys := encE x) h (by intro h; cases h) (fun u hu => encE_one [x] u (by simpa using hu)) rfl (Nat.le_refl _) (by unfold maxLen; omega)
end Go.Ti
namespace Go.Proofs.Ytdelemmoiaiooaa
open Go.RowKit Go.Bs Go.Cl Go.Rw Go.Ti Go.Wi Go.Sort Go.So
theorem sort_any {base : Nat} {v : Value} {l : List Int} {w : World} (h : w.ownsRow base 3 1 v l.length (l.flatMap encT)) (hn : l.length ≤ 1000) :
    Calls Try.prog 57 #[v] w fun e w' => e = .returned (.tuple #[]) ∧ w'.ownsRow base 3 1 v (l.mergeSort fun x y => decide (x ≤ y)).length ((l.mergeSort fun x y => decide (x ≤ y)).flatMap encT) ∧ Keep v.ownBlock.toList w w' := by
  rw [List.length_mergeSort]
  rcases own_cases h with ⟨rfl, h00, h0⟩ | ⟨g, cap, rfl, h1, h2, h3⟩
  · have : l = [] := List.eq_nil_of_length_eq_zero h00
    subst this
    refine (Try.slices_Sort_int_none none 0 w).mono ?_
    rintro e w' ⟨rfl, rfl⟩
    exact ⟨rfl, by simpa using h, Keep.refl _ _⟩
  · rw [encT_map] at h ⊢
    refine (Try.slices_Sort_int g 0 cap l w (holds_own _ h) h2 (by omega)).mono ?_
    rintro e w' ⟨rfl, q, os, rfl⟩
    exact ⟨rfl, own_put _ h _ (by simp) q os, keep_put _ w g q os _⟩
set_option maxRecDepth 100000 in
theorem sleeps_any (s base : Nat) (v : Value) (l : List Int) (t : Int) (w : World) (hl : l.length ≤ 1000) (h : St w base s v l) :
    Calls Try.prog 41 #[.pointer (some ⟨s, 0, none⟩), .int .i64 t] w fun e w' => e = .returned (.bool (decide (t ∈ l))) ∧ Below w.heap.size w w' := by
  have c0 := box_at h.box (j := 0) rfl
  have H := Lib.hid h; clear h
  go_enter Try.func41, Try.ntmps41
  go_wp2_with fail
  refine (contains_any v l t _ (by omega) (SlT.of_own H.out.row)).mono ?_
  rintro e w1 ⟨rfl, hb⟩
  have Hb := Lib.hid hb; clear hb
  go_wp2
  go_ret
  exact ⟨rfl, Hb.out⟩
set_option maxRecDepth 100000 in
set_option maxHeartbeats 1000000 in
theorem wake_any (s base : Nat) (v : Value) (l : List Int) (t : Int) (w : World) (hl : l.length ≤ 1000) (h : St w base s v l) :
    Calls Try.prog 43 #[.pointer (some ⟨s, 0, none⟩), .int .i64 t] w fun e w' => (∃ u, e = .returned u) ∧ ∃ v', St w' base s v' (delT l t) ∧ Below base w w' ∧ Keep (s :: v.ownBlock.toList) w w' ∧ v'.ownBlock = v.ownBlock := by
  obtain ⟨W, hW⟩ : ∃ W, W = w.alloc (.cells #[.int .i64 t] 3) := ⟨_, rfl⟩
  have hb : Below w.heap.size w W := by rw [hW]; exact (Below.refl w.heap.size w).alloc (Nat.le_refl _) _
  have hx : W.heap[w.heap.size]? = some (.cells #[.int .i64 t] 3 (0, 0)) := by rw [hW]; exact heap_alloc_new w _
  have ct := box_at hx (j := 0) rfl
  have hsw := h.lt
  have hS := h.below hb
  have c0 := box_at hS.box (j := 0) rfl
  have hlo := h.lo
  have hrl : ∀ r, v.ownBlock = some r → base ≤ r ∧ r < w.heap.size := fun r hr => h.row.lt r hr
  have hWs : w.heap.size < W.heap.size := (Array.getElem?_eq_some_iff.1 hx).1
  have Hdel := Lib.hid (delf_any v l t w.heap.size base W (by omega) hS.row ct hWs (fun e => by have := (hrl _ e).2; omega))
  have HS := Lib.hid hS
  have Hb := Lib.hid hb
  have Hrl := Lib.hid hrl
  clear hb hx hS hrl h ct
  go_enter Try.func43, Try.ntmps43
  go_upto_region 1 with (fail)
  rw [← hW]
  clear hW
  go_wp2_with fail
  refine Hdel.out.mono ?_
  rintro e w1 ⟨v', rfl, hrow, hk, hvb⟩
  have hns : s ∉ v.ownBlock.toList := fun hm => HS.out.ne (by simpa using hm)
  have hx1 := (hk.block s HS.out.lt hns).trans HS.out.box
  have f1 := box_free hx1 0
  have c1 := box_at hx1 (j := 0) rfl
  have hks : Keep [s] w1 (w1.setCell ⟨s, 0, none⟩ v') := (Keep.refl [s] w1).setCell (by simp) _
  have Hfin : Hid (St (w1.setCell ⟨s, 0, none⟩ v') base s v' (delT l t) ∧ Below base w (w1.setCell ⟨s, 0, none⟩ v') ∧ Keep (s :: v.ownBlock.toList) w (w1.setCell ⟨s, 0, none⟩ v')) := Lib.hid ⟨⟨box_set hx1, own_keep hrow hks (fun r hr hm => by
      rw [List.mem_singleton.1 hm, hvb] at hr
      exact HS.out.ne hr), by rw [hvb]; exact HS.out.ne, hlo⟩, ((Hb.out.mono (by omega)).trans (hk.below (B := base) (by omega) (fun f hf => (Hrl.out f (by simpa using hf)).1))).setCell hlo _, ((Keep.of_below' (F := s :: v.ownBlock.toList) Hb.out).trans hk (fun f hf => .inl (List.mem_cons_of_mem _ hf))).setCell (.inl List.mem_cons_self) _⟩
  have Hvb := Lib.hid hvb
  obtain ⟨va, vc, rfl⟩ := own_slice hrow
  clear hrow hk hvb hx1 hks hns
  go_wp2
  go_end0
  exact ⟨⟨_, rfl⟩, _, Hfin.out.1, Hfin.out.2.1, Hfin.out.2.2, Hvb.out⟩
end Go.Proofs.Ytdelemmoiaiooaa
