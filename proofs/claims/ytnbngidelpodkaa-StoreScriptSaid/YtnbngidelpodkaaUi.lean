/- Undo: the log: New, Begin, closed, Open, note -/
import Derived.Test.YtnbngidelpodkaaUg
namespace Go.Un
open Go Go.RowKit Go.Bs Go.Cl Go.Rw
def LogF (g : Nat) (iv rv : Value) : List Nat := g :: (iv.ownBlock.toList ++ rv.ownBlock.toList)
/-- a log lies at block g: its image iv, its records rv, is it open? -/
structure LogAt (w : World) (base g : Nat) (iv rv : Value) (img : List UInt8) (rs : List (Rec × Value)) (o : Bool) : Prop where
  hg : base ≤ g
  hc : w.heap[g]? = some (.cells #[iv, rv, .bool o] 87 (0, 0))
  hi : w.ownsRow base 5 1 iv img.length (bytesV img)
  hr : RowF w base 95 3 rv rs.length (rs.flatMap encR)
  hb : ∀ p ∈ rs, Bytes (LogF g iv rv) w p.2 p.1.old
variable {w w' : World} {base g : Nat} {iv rv : Value} {img : List UInt8} {rs : List (Rec × Value)} {o : Bool}
theorem own_type {e k n : Nat} {v : Value} {xs : List Value} (h : w.ownsRow base e k v n xs) {r : Nat} (hr : v.ownBlock = some r) : ∃ cur, w.heap[r]? = some (.cells cur e (0, 0)) := RowF.type (.inl h) hr
theorem LogAt.lt (h : LogAt w base g iv rv img rs o) : g < w.heap.size := (Array.getElem?_eq_some_iff.1 h.hc).1
theorem LogAt.gi (h : LogAt w base g iv rv img rs o) : iv.ownBlock ≠ some g := fun e => by
  obtain ⟨cur, hh⟩ := own_type h.hi e
  rw [h.hc] at hh; cases hh
theorem LogAt.gr (h : LogAt w base g iv rv img rs o) : rv.ownBlock ≠ some g := fun e => by
  obtain ⟨cur, hh⟩ := h.hr.type e
  rw [h.hc] at hh; cases hh
theorem LogAt.ir (h : LogAt w base g iv rv img rs o) {k : Nat} (hi : iv.ownBlock = some k) : rv.ownBlock ≠ some k := fun e => by
  obtain ⟨cur, hh⟩ := h.hr.type e
  obtain ⟨cur', hh'⟩ := own_type h.hi hi
  rw [hh'] at hh; cases hh
theorem LogAt.fbase (h : LogAt w base g iv rv img rs o) : ∀ f ∈ LogF g iv rv, base ≤ f ∧ f < w.heap.size := by
  intro f hf
  simp [LogF] at hf
  rcases hf with rfl | hf | hf
  · exact ⟨h.hg, h.lt⟩
  · exact h.hi.lt f hf
  · exact h.hr.row f hf
theorem LogAt.keep {G : List Nat} (h : LogAt w base g iv rv img rs o) (hk : Keep G w w') (hG : ∀ f ∈ LogF g iv rv, f ∉ G) (hb : ∀ f ∈ G, f ∈ LogF g iv rv ∨ w.heap.size ≤ f ∨ f < base := by intro f hf; cases hf) (hbb : ∀ p ∈ rs, Bytes (LogF g iv rv) w' p.2 p.1.old) : LogAt w' base g iv rv img rs o :=
  ⟨h.hg, (hk.block g h.lt (hG g (by simp [LogF]))).trans h.hc, by
    have := RowF.keep (.inl h.hi) hk (fun r hr => hG r (by simp [LogF, hr]))
    rcases this with h' | ⟨r, cur, hv, q⟩
    · exact h'
    · refine ⟨h.hi.1, ?_⟩
      rcases h.hi.2 with h2 | ⟨g', cap, cur', hv', hb', hg', rest⟩
      · exact .inl h2
      · exact .inr ⟨g', cap, cur', hv', hb', (hk.block g' (Array.getElem?_eq_some_iff.1 hg').1 (hG g' (by simp [LogF, hv', Value.ownBlock]))).trans hg', rest⟩,
    h.hr.keep hk (fun r hr => hG r (by simp [LogF, hr])), hbb⟩
/-- nobody has changed anything -/
theorem LogAt.below (h : LogAt w base g iv rv img rs o) (hb : Below w.heap.size w w') : LogAt w' base g iv rv img rs o :=
  h.keep (G := []) (Keep.of_below' hb) (fun f _ hf => by cases hf) (fun f hf => by cases hf) fun p hp => Raw.below (h.hb p hp) hb
/-- another slice of records, stored into the log -/
theorem LogAt.recs {w w3 : World} {v3 : Value} {ts : List (Rec × Value)} (h : LogAt w base g iv rv img rs o) (hk3 : Keep rv.ownBlock.toList w w3) (hown : RowF w3 base 95 3 v3 ts.length (ts.flatMap encR))
    (hF3 : ∀ f, v3.ownBlock = some f → rv.ownBlock = some f ∨ w.heap.size ≤ f) (hb : ∀ p ∈ ts, Bytes (LogF g iv rv) w p.2 p.1.old) :
    LogAt (w3.setCell ⟨g, 1, none⟩ v3) base g iv v3 img ts o ∧ Keep (g :: rv.ownBlock.toList) w (w3.setCell ⟨g, 1, none⟩ v3) := by
  have hgn : g ∉ rv.ownBlock.toList := fun hm => h.gr (by simpa using hm)
  have hc3 : w3.heap[g]? = some (.cells #[iv, rv, .bool o] 87 (0, 0)) := (hk3.block g h.lt hgn).trans h.hc
  have hk4 : Keep [g] w3 (w3.setCell ⟨g, 1, none⟩ v3) := (Keep.refl [g] w3).setCell (by simp) _
  have hks : Keep (g :: rv.ownBlock.toList) w (w3.setCell ⟨g, 1, none⟩ v3) := (hk3.mono (fun f hf => .inl (List.mem_cons_of_mem _ hf))).trans hk4 (fun f hf => .inl (by rw [List.mem_singleton.1 hf]; simp))
  have hv3 : v3.ownBlock ≠ some g := fun e => by
    obtain ⟨cur, hh⟩ := hown.type e
    rw [hc3] at hh; cases hh
  have hin : ∀ r, iv.ownBlock = some r → r ∉ g :: rv.ownBlock.toList := fun r hr hm => by
    rcases List.mem_cons.1 hm with rfl | hm
    · exact h.gi hr
    · exact h.ir hr (by simpa using hm)
  refine ⟨⟨h.hg, ?_, ?_, hown.keep hk4 (fun r hr hm => by rw [List.mem_singleton.1 hm] at hr; exact hv3 hr), fun p hp => ?_⟩, hks⟩
  · simp only [World.setCell, Array.getElem?_modify]
    simp [hc3]
  · refine ⟨h.hi.1, ?_⟩
    rcases h.hi.2 with h2 | ⟨g', cap, cur', hv', hb', hg', rest⟩
    · exact .inl h2
    · exact .inr ⟨g', cap, cur', hv', hb', (hks.block g' (Array.getElem?_eq_some_iff.1 hg').1 (hin g' (by rw [hv']; rfl))).trans hg', rest⟩
  · refine (hb p hp).keep hks (fun f hf => .inl ?_) (fun f hf => ?_)
    · rcases List.mem_cons.1 hf with rfl | hf
      · simp [LogF]
      · simp only [LogF, List.mem_cons, List.mem_append]; exact .inr (.inr hf)
    · simp only [LogF, List.mem_cons, List.mem_append] at hf ⊢
      rcases hf with hf | hf | hf
      · exact .inl (.inl hf)
      · exact .inl (.inr (.inl hf))
      · rcases hF3 f (by simpa using hf) with h1 | h1
        · exact .inl (.inr (.inr (by simp [h1])))
        · exact .inr h1
/-- a record more -/
theorem LogAt.push {w w3 : World} {v3 : Value} {q : Rec × Value} (h : LogAt w base g iv rv img rs o) (hk3 : Keep rv.ownBlock.toList w w3) (hown : w3.ownsRow base 95 3 v3 (rs.length + 1) (rs.flatMap encR ++ encR q))
    (hF3 : ∀ f, v3.ownBlock = some f → rv.ownBlock = some f ∨ w.heap.size ≤ f) (hq : Bytes (LogF g iv rv) w q.2 q.1.old) :
    LogAt (w3.setCell ⟨g, 1, none⟩ v3) base g iv v3 img (rs ++ [q]) o ∧ Keep (g :: rv.ownBlock.toList) w (w3.setCell ⟨g, 1, none⟩ v3) :=
  h.recs hk3 (.inl (by rw [List.length_append, List.flatMap_append]; simpa using hown)) hF3 fun p hp => by
    rcases List.mem_append.1 hp with hp | hp
    · exact h.hb p hp
    · rw [List.mem_singleton.1 hp]; exact hq
/-- the records' bytes stay out of whatever they were out of -/
def Fr (w : World) (rs : List (Rec × Value)) (w' : World) (rs' : List (Rec × Value)) : Prop := ∀ X : List Nat, (∀ f ∈ X, f < w.heap.size) → (∀ p ∈ rs, Bytes X w p.2 p.1.old) → ∀ p ∈ rs', Bytes X w' p.2 p.1.old
theorem Fr.refl (w : World) (rs : List (Rec × Value)) : Fr w rs w rs := fun _ _ h => h
theorem Fr.trans {w1 w2 : World} {rs rs1 rs2 : List (Rec × Value)} (h : Fr w rs w1 rs1) (h' : Fr w1 rs1 w2 rs2) (hs : w.heap.size ≤ w1.heap.size) : Fr w rs w2 rs2 := fun X hX hr => h' X (fun f hf => Nat.lt_of_lt_of_le (hX f hf) hs) (h X hX hr)
theorem Fr.keep {ts : List (Rec × Value)} (h : LogAt w base g iv rv img rs o) (hk : Keep (LogF g iv rv) w w') (hs : ∀ p ∈ ts, p ∈ rs) : Fr w rs w' ts := fun _ _ hr p hp =>
  Raw.keep (Raw.both (hr p (hs p hp)) (h.hb p (hs p hp))) hk (fun _ hf => .inl (List.mem_append_right _ hf)) (fun _ hf => .inl (List.mem_append_left _ hf))
theorem Fr.below (hb : Below w.heap.size w w') (rs : List (Rec × Value)) : Fr w rs w' rs := fun _ _ hr p hp => Raw.below (hr p hp) hb
theorem Fr.snoc {ts : List (Rec × Value)} {q : Rec × Value} (h : Fr w rs w' ts) (hq : ∀ X : List Nat, (∀ f ∈ X, f < w.heap.size) → Bytes X w' q.2 q.1.old) : Fr w rs w' (ts ++ [q]) := fun X hX hr p hp => by
  rcases List.mem_append.1 hp with hp | hp
  · exact h X hX hr p hp
  · rw [List.mem_singleton.1 hp]; exact hq X hX
theorem Fr.nil (w w' : World) (rs : List (Rec × Value)) : Fr w rs w' [] := fun _ _ _ p hp => by cases hp
end Go.Un
namespace Go.Proofs.Ytnbngidelpodkaa
open Go.RowKit Go.Bs Go.Cl Go.Rw Go.Un

set_option maxHeartbeats 400000 in
theorem new_any (bv : Value) (b : List UInt8) (w : World) (hb : b.length ≤ 24000) (hB : Bytes [] w bv b) :
    Calls Try.prog 31 #[bv] w fun e w' => ∃ g iv, e = .returned (.tuple #[.pointer (some ⟨g, 0, none⟩), .int .i64 0]) ∧ LogAt w' w.heap.size g iv (.slice none 0 0) b [] false ∧ Below w.heap.size w w' := by
  obtain ⟨ba, bc, rfl⟩ := Raw.slice hB
  have HB := Lib.hid hB; clear hB
  have hb' : (b.length : Int) ≤ 24000 := by omega
  go_enter Try.func31, Try.ntmps31
  go_wp2_with fail
  refine (clone33 _ (by omega) HB.out).mono ?_
  rintro e w1 ⟨v1, rfl, hown1, hb1⟩
  obtain ⟨a1, c1, rfl⟩ := own_slice hown1
  have Hown1 := Lib.hid hown1; clear hown1
  have hsz := hb1.size
  go_wp2
  go_ret2
  exact ⟨w1.heap.size, _, rfl, ⟨hsz, heap_alloc_new w1 _, Hown1.out.alloc _, .inl (World.ownsRow_nil _ _ _ _), fun p hp => by cases hp⟩, hb1.alloc hsz _⟩

set_option maxHeartbeats 400000 in
theorem new_big (bv : Value) (n : Nat) (w : World) (hb : 24000 < n) (hB : ∃ a c, bv = .slice a n c) :
    Calls Try.prog 31 #[bv] w fun e w' => e = .returned (.tuple #[.pointer none, .int .i64 6]) ∧ w = w' := by
  obtain ⟨ba, bc, rfl⟩ := hB
  have hb' : 24000 < (n : Int) := by omega
  go_enter Try.func31, Try.ntmps31
  go_wp2
  go_ret2
  exact ⟨rfl, rfl⟩

/-- .. with another mark -/
theorem LogAt.mark {w : World} {base g : Nat} {iv rv : Value} {img : List UInt8} {rs : List (Rec × Value)} {o : Bool} (h : LogAt w base g iv rv img rs o) (o' : Bool) : LogAt (w.setCell ⟨g, 2, none⟩ (.bool o')) base g iv rv img rs o' ∧ Keep [g] w (w.setCell ⟨g, 2, none⟩ (.bool o')) := by
  have hk : Keep [g] w (w.setCell ⟨g, 2, none⟩ (.bool o')) := (Keep.refl [g] w).setCell (by simp) _
  have hne : ∀ r, (iv.ownBlock = some r ∨ rv.ownBlock = some r) → r ∉ [g] := fun r hr hm => by
    rw [List.mem_singleton.1 hm] at hr
    rcases hr with hr | hr
    · exact h.gi hr
    · exact h.gr hr
  refine ⟨⟨h.hg, ?_, ?_, h.hr.keep hk (fun r hr => hne r (.inr hr)), fun p hp => (h.hb p hp).keep hk (fun f hf => .inl (by simp [LogF, List.mem_singleton.1 hf])) (fun f hf => .inl hf)⟩, hk⟩
  · have := h.hc
    simp only [World.setCell, Array.getElem?_modify]
    simp [this]
  · refine ⟨h.hi.1, ?_⟩
    rcases h.hi.2 with h2 | ⟨g', cap, cur', hv', hb', hg', rest⟩
    · exact .inl h2
    · exact .inr ⟨g', cap, cur', hv', hb', (hk.block g' (Array.getElem?_eq_some_iff.1 hg').1 (hne g' (.inl (by rw [hv']; rfl)))).trans hg', rest⟩

set_option maxHeartbeats 400000 in
theorem begin_any {base g : Nat} {iv rv : Value} {img : List UInt8} {rs : List (Rec × Value)} {o : Bool} (w : World) (h : LogAt w base g iv rv img rs o) :
    Calls Try.prog 34 #[.pointer (some ⟨g, 0, none⟩)] w fun e w' => e = .returned (.int .i64 (if o then 7 else 0)) ∧ LogAt w' base g iv rv img rs true ∧ Keep [g] w w' := by
  have c2 := box_at h.hc (j := 2) rfl
  have f2 := box_free h.hc 2
  have H := Lib.hid h; clear h
  cases o
  · go_enter Try.func34, Try.ntmps34
    go_wp2
    go_ret
    exact ⟨rfl, LogAt.mark H.out true⟩
  · go_enter Try.func34, Try.ntmps34
    go_wp2
    go_ret
    exact ⟨rfl, H.out, Keep.refl _ _⟩
set_option maxHeartbeats 400000 in
theorem begin_nil (w : World) : Calls Try.prog 34 #[.pointer none] w fun e w' => e = .returned (.int .i64 7) ∧ w = w' := by
  go_enter Try.func34, Try.ntmps34
  go_wp2
  go_ret
  exact ⟨rfl, rfl⟩
set_option maxHeartbeats 400000 in
theorem closed_any {base g : Nat} {iv rv : Value} {img : List UInt8} {rs : List (Rec × Value)} {o : Bool} (w : World) (h : LogAt w base g iv rv img rs o) :
    Calls Try.prog 52 #[.pointer (some ⟨g, 0, none⟩)] w fun e w' => e = .returned (.bool (!o)) ∧ w = w' := by
  have c2 := box_at h.hc (j := 2) rfl
  have H := Lib.hid h; clear h
  go_enter Try.func52, Try.ntmps52
  go_wp2
  go_ret
  exact ⟨rfl, rfl⟩
set_option maxHeartbeats 400000 in
theorem closed_nil (w : World) : Calls Try.prog 52 #[.pointer none] w fun e w' => e = .returned (.bool true) ∧ w = w' := by
  go_enter Try.func52, Try.ntmps52
  go_wp2
  go_ret
  exact ⟨rfl, rfl⟩
set_option maxHeartbeats 400000 in
theorem open_any {base g : Nat} {iv rv : Value} {img : List UInt8} {rs : List (Rec × Value)} {o : Bool} (w : World) (h : LogAt w base g iv rv img rs o) :
    Calls Try.prog 43 #[.pointer (some ⟨g, 0, none⟩)] w fun e w' => e = .returned (.bool o) ∧ w = w' := by
  have c2 := box_at h.hc (j := 2) rfl
  have H := Lib.hid h; clear h
  go_enter Try.func43, Try.ntmps43
  go_wp2
  go_ret
  exact ⟨rfl, rfl⟩
set_option maxHeartbeats 400000 in
theorem open_nil (w : World) : Calls Try.prog 43 #[.pointer none] w fun e w' => e = .returned (.bool false) ∧ w = w' := by
  go_enter Try.func43, Try.ntmps43
  go_wp2
  go_ret
  exact ⟨rfl, rfl⟩
end Go.Proofs.Ytnbngidelpodkaa
