/- Undo: the reference's model: a step -/
import Derived.Test.YteefimjgcabpoaaVm
namespace Go.Un
open Go Go.RowKit Go.Bs Go.Cl Go.Rw
/-- the model lies at these values -/
structure MdAt (F : List Nat) (w : World) (iv pv rv : Value) (m : Md) : Prop where
  img : Bytes F w iv m.img
  past : ∃ pvs : List (List UInt8 × Value), Raw F 1 w pv pvs.length (pvs.map (·.2)) ∧ pvs.map (·.1) = m.past ∧ ∀ p ∈ pvs, Bytes F w p.2 p.1
  recs : ∃ rs : List (Rec × Value), Recs F w rv rs ∧ rs.map (·.1) = m.rs
theorem MdAt.keep {F F' G : List Nat} {w w' : World} {iv pv rv : Value} {m : Md} (h : MdAt F w iv pv rv m) (hk : Keep G w w') (hG : ∀ f ∈ G, f ∈ F ∨ w.heap.size ≤ f) (hF : ∀ f ∈ F', f ∈ F ∨ w.heap.size ≤ f) : MdAt F' w' iv pv rv m := by
  obtain ⟨h1, ⟨pvs, h2, h3, h4⟩, rs, h5, h6⟩ := h
  exact ⟨h1.keep hk hG hF, ⟨pvs, h2.keep hk hG hF, h3, fun p hp => (h4 p hp).keep hk hG hF⟩, rs, ⟨h5.1.keep hk hG hF, fun p hp => (h5.2 p hp).keep hk hG hF⟩, h6⟩
theorem MdAt.below {F : List Nat} {w w' : World} {iv pv rv : Value} {m : Md} (h : MdAt F w iv pv rv m) (hb : Below w.heap.size w w') : MdAt F w' iv pv rv m :=
  h.keep (G := []) (Keep.of_below' hb) (fun f hf => by cases hf) (fun f hf => .inl hf)
theorem heap_alloc3 (w : World) (A B C : Obj) : (((w.alloc A).alloc B).alloc C).heap[w.heap.size + 1 + 1]? = some C := by simpa only [World.size_alloc] using heap_alloc_new ((w.alloc A).alloc B) C
theorem below_alloc3 (w : World) (A B C : Obj) : Below w.heap.size w (((w.alloc A).alloc B).alloc C) :=
  (((Below.refl w.heap.size w).alloc (Nat.le_refl _) A).alloc (by simp) B).alloc (by simp; omega) C
theorem MdAt.fin {F : List Nat} {w : World} {iv pv rv : Value} {m : Md} (h : MdAt F w iv pv rv m) (f : Bool) : MdAt F w iv pv rv ⟨m.img, m.past, m.rs, f⟩ := ⟨h.img, h.past, h.recs⟩
theorem heap_alloc3_0 (w : World) (A B C : Obj) : (((w.alloc A).alloc B).alloc C).heap[w.heap.size]? = some A :=
  ((((Below.refl (w.alloc A).heap.size (w.alloc A)).alloc (Nat.le_refl _) B).alloc (by simp) C).block w.heap.size (by simp)).trans (heap_alloc_new w A)
theorem heap_alloc3_1 (w : World) (A B C : Obj) : (((w.alloc A).alloc B).alloc C).heap[w.heap.size + 1]? = some B :=
  (((Below.refl ((w.alloc A).alloc B).heap.size ((w.alloc A).alloc B)).alloc (Nat.le_refl _) C).block (w.heap.size + 1) (by simp)).trans (by simpa only [World.size_alloc] using heap_alloc_new (w.alloc A) B)
def NX (F : List Nat) (w : World) (r : Md × Int) (e : Ending) (w' : World) : Prop :=
  ∃ iv pv rv, e = .returned (.tuple #[.agg #[iv, pv, rv, .bool r.1.fin], .int .i64 r.2]) ∧ MdAt F w' iv pv rv r.1 ∧ Below w.heap.size w w'
end Go.Un
namespace Go.Proofs.Yteefimjgcabpoaa
open Go.RowKit Go.Bs Go.Cl Go.Rw Go.Un
set_option maxRecDepth 100000 in
set_option maxHeartbeats 2000000 in
theorem next_begin {F : List Nat} (iv pv rv dv : Value) (m : Md) (n : Int) (d : List UInt8) (w : World) (h : MdAt F w iv pv rv m) (hd : Bytes [] w dv d) :
    Calls Try.prog 20 #[.agg #[iv, pv, rv, .bool m.fin], .agg #[.int .i64 0, .int .i64 n, dv]] w (NX F w (nxt m 0 n d)) := by
  obtain ⟨img, past, rs, fin⟩ := m
  have h' := h
  obtain ⟨h1, ⟨pvs, h2, h3, h4⟩, rvs, h5, h6⟩ := h'
  obtain ⟨ia, ic, rfl⟩ := Raw.slice h1
  obtain ⟨pa, pc, rfl⟩ := Raw.slice h2
  obtain ⟨ra, rc, rfl⟩ := Raw.slice h5.1
  obtain ⟨da, dc, rfl⟩ := Raw.slice hd
  have H := Lib.hid h
  clear h h1 h2 h3 h4 h5 h6 hd
  cases fin
  all_goals
    go_enter Try.func20, Try.ntmps20
    go_wp2
    refine bodyPost_ret (results_ct rfl _ _ _ _ _ _ _ rfl (heap_alloc3 _ _ _ _) Try.underlying48 rfl (by kernel_rfl)) rfl ?_
    exact ⟨_, _, _, rfl, (H.out.below (below_alloc3 _ _ _ _)).fin _, below_alloc3 _ _ _ _⟩
set_option maxRecDepth 100000 in
set_option maxHeartbeats 2000000 in
theorem next_closed {F : List Nat} (iv pv rv dv : Value) (m : Md) (op n : Int) (d : List UInt8) (w : World) (hop : op ≠ 0) (hf : m.fin = false) (h : MdAt F w iv pv rv m) (hd : Bytes [] w dv d) :
    Calls Try.prog 20 #[.agg #[iv, pv, rv, .bool m.fin], .agg #[.int .i64 op, .int .i64 n, dv]] w (NX F w (nxt m op n d)) := by
  have e1 : nxt m op n d = (m, 7) := by simp [nxt, hop, hf]
  rw [e1]; clear e1
  obtain ⟨img, past, rs, fin⟩ := m
  simp only at hf
  subst hf
  have h' := h
  obtain ⟨h1, ⟨pvs, h2, h3, h4⟩, rvs, h5, h6⟩ := h'
  obtain ⟨ia, ic, rfl⟩ := Raw.slice h1
  obtain ⟨pa, pc, rfl⟩ := Raw.slice h2
  obtain ⟨ra, rc, rfl⟩ := Raw.slice h5.1
  obtain ⟨da, dc, rfl⟩ := Raw.slice hd
  have H := Lib.hid h
  have hop' : (op == 0) = false := by simpa using hop
  clear h h1 h2 h3 h4 h5 h6 hd hop
  go_enter Try.func20, Try.ntmps20
  go_wp2
  refine bodyPost_ret (results_ct rfl _ _ _ _ _ _ _ rfl (heap_alloc3 _ _ _ _) Try.underlying48 rfl (by kernel_rfl)) rfl ?_
  exact ⟨_, _, _, rfl, (H.out.below (below_alloc3 _ _ _ _)).fin _, below_alloc3 _ _ _ _⟩
set_option maxRecDepth 100000 in
set_option maxHeartbeats 2000000 in
theorem next_commit {F : List Nat} (iv pv rv dv : Value) (m : Md) (n : Int) (d : List UInt8) (w : World) (hf : m.fin = true) (h : MdAt F w iv pv rv m) (hd : Bytes [] w dv d) :
    Calls Try.prog 20 #[.agg #[iv, pv, rv, .bool m.fin], .agg #[.int .i64 4, .int .i64 n, dv]] w (NX F w (nxt m 4 n d)) := by
  have e1 : nxt m 4 n d = (⟨m.img, [], [], false⟩, 0) := by simp [nxt, hf]
  rw [e1]; clear e1
  obtain ⟨img, past, rs, fin⟩ := m
  simp only at hf
  subst hf
  have h' := h
  obtain ⟨h1, ⟨pvs, h2, h3, h4⟩, rvs, h5, h6⟩ := h'
  obtain ⟨ia, ic, rfl⟩ := Raw.slice h1
  obtain ⟨pa, pc, rfl⟩ := Raw.slice h2
  obtain ⟨ra, rc, rfl⟩ := Raw.slice h5.1
  obtain ⟨da, dc, rfl⟩ := Raw.slice hd
  have H1 := Lib.hid h1
  clear h h1 h2 h3 h4 h5 h6 hd
  go_enter Try.func20, Try.ntmps20
  go_wp2
  refine bodyPost_ret (results_ct rfl _ _ _ _ _ _ _ rfl (heap_alloc3 _ _ _ _) Try.underlying48 rfl (by kernel_rfl)) rfl ?_
  exact ⟨_, _, _, rfl, ⟨Raw.below H1.out (below_alloc3 _ _ _ _), ⟨[], Raw.empty _ _ _, rfl, fun _ h => by cases h⟩, [], ⟨Raw.empty _ _ _, fun _ h => by cases h⟩, rfl⟩, below_alloc3 _ _ _ _⟩
set_option maxRecDepth 100000 in
set_option maxHeartbeats 2000000 in
theorem next_roll {F : List Nat} (iv pv rv dv : Value) (m : Md) (op n : Int) (d : List UInt8) (w : World) (o0 : op ≠ 0) (o1 : op ≠ 1) (o2 : op ≠ 2) (o3 : op ≠ 3) (o4 : op ≠ 4) (hf : m.fin = true) (h : MdAt F w iv pv rv m) (hd : Bytes [] w dv d) :
    Calls Try.prog 20 #[.agg #[iv, pv, rv, .bool m.fin], .agg #[.int .i64 op, .int .i64 n, dv]] w (NX F w (nxt m op n d)) := by
  have e1 : nxt m op n d = (⟨if 0 < m.past.length then m.past.getD 0 [] else m.img, [], [], false⟩, 0) := by simp [nxt, hf, o0, o1, o2, o3, o4]
  rw [e1]; clear e1
  obtain ⟨img, past, rs, fin⟩ := m
  simp only at hf
  subst hf
  have h' := h
  obtain ⟨h1, ⟨pvs, h2, h3, h4⟩, rvs, h5, h6⟩ := h'
  simp only at h1 h3 h6
  have hpl : past.length = pvs.length := by rw [← h3, List.length_map]
  obtain ⟨ia, ic, rfl⟩ := Raw.slice h1
  obtain ⟨pa, pc, rfl⟩ := Raw.slice h2
  obtain ⟨ra, rc, rfl⟩ := Raw.slice h5.1
  obtain ⟨da, dc, rfl⟩ := Raw.slice hd
  have p0 : (op == 0) = false := by simpa using o0
  have p1 : (op == 1) = false := by simpa using o1
  have p2 : (op == 2) = false := by simpa using o2
  have p3 : (op == 3) = false := by simpa using o3
  have p4 : (op == 4) = false := by simpa using o4
  clear o0 o1 o2 o3 o4 h hd h5 h6
  by_cases hp : 0 < pvs.length
  · rcases Raw.cases h2 with ⟨h0, _⟩ | ⟨_, b, off, c, hv, _, _, hb, _, hc⟩
    · omega
    cases hv
    obtain ⟨q, hq⟩ : ∃ q, pvs[0]? = some q := ⟨pvs[0], by simp⟩
    have hq0 : past.getD 0 [] = q.1 := by rw [← h3, List.getD_eq_getElem?_getD, List.getElem?_map, hq]; rfl
    have hcell : w.cell? ⟨b, off, none⟩ = some q.2 := hc 0 _ (by rw [List.getElem?_map, hq]; rfl)
    have hB := h4 q (List.mem_of_getElem? hq)
    obtain ⟨ql, qv⟩ := q
    simp only at hq0 hcell hB
    obtain ⟨qa, qc, rfl⟩ := Raw.slice hB
    have HB := Lib.hid hB
    have e2 : (if 0 < past.length then past.getD 0 [] else img) = ql := by rw [hpl, if_pos hp, hq0]
    simp only [e2]
    have hcell3 : ∀ A B C, (((w.alloc A).alloc B).alloc C).cell? ⟨b, off, none⟩ = some (.slice qa ql.length qc) := fun A B C => ((below_alloc3 w A B C).cell (p := ⟨b, off, none⟩) hb).trans hcell
    clear h1 h2 h3 h4 hpl hq hq0 hc hB e2 hcell
    go_enter Try.func20, Try.ntmps20
    go_wp2
    refine bodyPost_ret (results_ct rfl _ _ _ _ _ _ _ rfl (heap_alloc3 _ _ _ _) Try.underlying48 rfl (by kernel_rfl)) rfl ?_
    exact ⟨_, _, _, rfl, ⟨Raw.below HB.out (below_alloc3 _ _ _ _), ⟨[], Raw.empty _ _ _, rfl, fun _ h => by cases h⟩, [], ⟨Raw.empty _ _ _, fun _ h => by cases h⟩, rfl⟩, below_alloc3 _ _ _ _⟩
  · have e2 : (if 0 < past.length then past.getD 0 [] else img) = img := by rw [hpl, if_neg hp]
    simp only [e2]
    have H1 := Lib.hid h1
    have hz : pvs = [] := List.eq_nil_of_length_eq_zero (by omega)
    subst hz
    clear h1 h2 h3 h4 hpl e2 hp
    go_enter Try.func20, Try.ntmps20
    go_wp2
    refine bodyPost_ret (results_ct rfl _ _ _ _ _ _ _ rfl (heap_alloc3 _ _ _ _) Try.underlying48 rfl (by kernel_rfl)) rfl ?_
    exact ⟨_, _, _, rfl, ⟨Raw.below H1.out (below_alloc3 _ _ _ _), ⟨[], Raw.empty _ _ _, rfl, fun _ h => by cases h⟩, [], ⟨Raw.empty _ _ _, fun _ h => by cases h⟩, rfl⟩, below_alloc3 _ _ _ _⟩
end Go.Proofs.Yteefimjgcabpoaa
