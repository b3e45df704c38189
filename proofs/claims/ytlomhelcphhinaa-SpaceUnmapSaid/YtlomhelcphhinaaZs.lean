/- Slices of slices, whatever the bounds are: one fact for the walk, one for the row. No program in sight. -/
import Derived.Test.YtlomhelcphhinaaRw
namespace Go.Rw
open Go Go.RowKit Go.Bs Go.Cl
variable {F : List Nat} {k : Nat} {w : World} {n : Nat} {xs : List Value}
theorem Raw.sliced {a : Option Addr} {cap lo hi m : Nat} (h : Raw F k w (.slice a n cap) n xs) (h1 : lo ≤ hi) (h2 : hi ≤ n) (h3 : hi ≤ m) (h4 : m ≤ cap) :
    Raw F k w (sliced a lo hi m k) (hi - lo) ((xs.take (hi * k)).drop (lo * k)) := by
  obtain ⟨g1, g2, a', c', hv, g3, g4, g5⟩ := h
  cases hv
  have hl : hi * k ≤ xs.length := by rw [g1]; exact Nat.mul_le_mul_right _ h2
  refine ⟨by rw [List.length_drop, List.length_take, Nat.min_eq_left hl, Nat.sub_mul], fun u hu => g2 u (List.mem_of_mem_take (List.mem_of_mem_drop hu)), _, _, rfl, by omega, by omega, fun h0 => ?_⟩
  obtain ⟨b, off, rfl, q1, q2, q3⟩ := g5 (by omega)
  rw [if_neg (by omega)]
  refine ⟨b, off + lo * k, by simp [Addr.add_lit], q1, q2, fun j u hj => ?_⟩
  rw [Nat.add_assoc]
  refine q3 (lo * k + j) u ?_
  rw [List.getElem?_drop, List.getElem?_take] at hj
  split at hj
  · exact hj
  · cases hj
/-- s[lo:] -/
theorem Raw.from {P : Program} {t e : TypeId} {a : Option Addr} {cap : Nat} (h : Raw F k w (.slice a n cap) n xs) (ht : P.underlying t = some (.slice e)) (hsz : (P.info? e).map (·.size) = some k) {lo : Nat} (hlo : lo ≤ n) :
    ∃ a', (∀ wx, (Instr.slice t (.slice a n cap) (some (.int .i64 lo)) none none).run P wx = .ok (.slice a' (n - lo) (cap - lo)) wx) ∧ Raw F k w (.slice a' (n - lo) (cap - lo)) (n - lo) (xs.drop (lo * k)) := by
  have hc : n ≤ cap := by obtain ⟨_, _, _, _, hv, g3, _⟩ := h; cases hv; exact g3
  have hs := Raw.sliced h hlo (Nat.le_refl _) hc (Nat.le_refl _)
  rw [List.take_of_length_le (by rw [h.len]; exact Nat.le_refl _)] at hs
  refine ⟨_, fun wx => ?_, hs⟩
  have hel : P.elem t = e := by simp [Program.elem, ht]
  rw [run_slice_l (P := P) wx t a n cap (by rw [ht, hel]) .i64 lo (by omega) (by omega), hel]
  cases hi : P.info? e with
  | none => simp [hi] at hsz
  | some i => simp [hi] at hsz; simp [sizeOf, typeInfo, hi, hsz, Go.sliced]
/-- .. where s has an address -/
theorem Raw.fromS {P : Program} {t e : TypeId} {A : Addr} {cap : Nat} (h : Raw F k w (.slice (some A) n cap) n xs) (ht : P.underlying t = some (.slice e)) (hsz : (P.info? e).map (·.size) = some k) {lo : Nat} (hlo : lo ≤ n) :
    ∃ A', (∀ wx, (Instr.slice t (.slice (some A) n cap) (some (.int .i64 lo)) none none).run P wx = .ok (.slice (some A') (n - lo) (cap - lo)) wx) ∧ Raw F k w (.slice (some A') (n - lo) (cap - lo)) (n - lo) (xs.drop (lo * k)) := by
  have hc : n ≤ cap := by obtain ⟨_, _, _, _, hv, g3, _⟩ := h; cases hv; exact g3
  have hs := Raw.sliced h hlo (Nat.le_refl _) hc (Nat.le_refl _)
  rw [List.take_of_length_le (by rw [h.len]; exact Nat.le_refl _)] at hs
  have hrun : ∀ wx, (Instr.slice t (.slice (some A) n cap) (some (.int .i64 lo)) none none).run P wx = .ok (Go.sliced (some A) lo n cap k) wx := fun wx => by
    have hel : P.elem t = e := by simp [Program.elem, ht]
    rw [run_slice_l (P := P) wx t (some A) n cap (by rw [ht, hel]) .i64 lo (by omega) (by omega), hel]
    cases hi : P.info? e with
    | none => simp [hi] at hsz
    | some i => simp [hi] at hsz; simp [sizeOf, typeInfo, hi, hsz]
  unfold Go.sliced at hs hrun
  by_cases hcl : cap = lo
  · rw [if_pos hcl] at hs hrun; exact ⟨A, hrun, hs⟩
  · rw [if_neg hcl] at hs hrun; exact ⟨A.add (lo * k), hrun, hs⟩
/-- the cells of a slice that has an address -/
theorem Raw.cellsS {A : Addr} {c m : Nat} (h : Raw F k w (.slice (some A) m c) m xs) : ∀ j u, xs[j]? = some u → w.cell? (A.add j) = some u := fun j u hj => by
  rcases h.cases with ⟨_, rfl, _⟩ | ⟨_, b, off, cap, hv, _, _, _, _, hc⟩
  · cases hj
  · cases hv; rw [Addr.add_lit]; exact hc j u hj
/-- s[lo:hi] -/
theorem Raw.mid {P : Program} {t e : TypeId} {a : Option Addr} {cap : Nat} (h : Raw F k w (.slice a n cap) n xs) (ht : P.underlying t = some (.slice e)) (hsz : (P.info? e).map (·.size) = some k) {lo hi : Nat} (hlo : lo ≤ hi) (hhi : hi ≤ n) :
    ∃ a', (∀ wx, (Instr.slice t (.slice a n cap) (some (.int .i64 lo)) (some (.int .i64 hi)) none).run P wx = .ok (.slice a' (hi - lo) (cap - lo)) wx) ∧ Raw F k w (.slice a' (hi - lo) (cap - lo)) (hi - lo) ((xs.take (hi * k)).drop (lo * k)) := by
  have hc : n ≤ cap := by obtain ⟨_, _, _, _, hv, g3, _⟩ := h; cases hv; exact g3
  have hs := Raw.sliced h hlo hhi (Nat.le_trans hhi hc) (Nat.le_refl _)
  refine ⟨_, fun wx => ?_, hs⟩
  have hel : P.elem t = e := by simp [Program.elem, ht]
  rw [run_slice_lh (P := P) wx t a n cap (by rw [ht, hel]) .i64 .i64 lo hi (by omega) (by omega) (by omega), hel]
  cases hi : P.info? e with
  | none => simp [hi] at hsz
  | some i => simp [hi] at hsz; simp [sizeOf, typeInfo, hi, hsz, Go.sliced]
/-- s[:hi] -/
theorem Raw.upto {P : Program} {t e : TypeId} {a : Option Addr} {cap : Nat} (h : Raw F k w (.slice a n cap) n xs) (ht : P.underlying t = some (.slice e)) (hsz : (P.info? e).map (·.size) = some k) {hi : Nat} (hhi : hi ≤ n) :
    ∃ a', (∀ wx, (Instr.slice t (.slice a n cap) none (some (.int .i64 hi)) none).run P wx = .ok (.slice a' hi cap) wx) ∧ Raw F k w (.slice a' hi cap) hi (xs.take (hi * k)) := by
  have hc : n ≤ cap := by obtain ⟨_, _, _, _, hv, g3, _⟩ := h; cases hv; exact g3
  have hs := Raw.sliced (lo := 0) h (Nat.zero_le _) hhi (Nat.le_trans hhi hc) (Nat.le_refl _)
  refine ⟨_, fun wx => ?_, by simpa [Go.sliced] using hs⟩
  have hel : P.elem t = e := by simp [Program.elem, ht]
  rw [run_slice_h (P := P) wx t a n cap (by rw [ht, hel]) .i64 hi (by omega) (by omega), hel]
  cases hi : P.info? e with
  | none => simp [hi] at hsz
  | some i => simp [hi] at hsz; simp [sizeOf, typeInfo, hi, hsz, Go.sliced]
/-- the blocks that were there -/
def old (w : World) : List Nat := List.range w.heap.size
theorem old_lt {w : World} : ∀ f ∈ old w, f < w.heap.size := fun _ hf => List.mem_range.1 hf
theorem Raw.apart {w' : World} {F' : List Nat} {v : Value} (h : Raw (old w) k w' v n xs) (hF : ∀ f ∈ F', f < w.heap.size) : Raw F' k w' v n xs :=
  h.keep (Keep.refl [] w') (fun f hf => by cases hf) (fun f hf => .inl (List.mem_range.2 (hF f hf)))
/-- .. and of what is newer still -/
theorem Raw.apart' {w' : World} {F' : List Nat} {v : Value} (h : Raw (old w) k w' v n xs) (hF : ∀ f ∈ F', f < w.heap.size ∨ w'.heap.size ≤ f) : Raw F' k w' v n xs :=
  h.keep (Keep.refl [] w') (fun f hf => by cases hf) (fun f hf => (hF f hf).imp (fun h => List.mem_range.2 h) id)
theorem heap_set3 {w : World} {g : Nat} {x y z : Value} {t : TypeId} (h : w.heap[g]? = some (.cells #[x, y, z] t (0, 0))) (a b c : Value) : (((w.setCell ⟨g, 0, none⟩ a).setCell ⟨g, 1, none⟩ b).setCell ⟨g, 2, none⟩ c).heap[g]? = some (.cells #[a, b, c] t (0, 0)) := by
  have h1 := heap_setCell_same w g 0 _ t a h
  have h2 := heap_setCell_same _ g 1 _ t b h1
  have h3 := heap_setCell_same _ g 2 _ t c h2
  exact h3
theorem results_tct {P : Program} {fn : Func} {p q r : Tmp} {ty : TypeId} (h : fn.results = #[.tmp p, .cell q ty, .tmp r]) (tmps : Array Value) (w : World) (g : Nat) (t : TypeId) (cs : Array Value) (fr : Nat × Nat) (d : TypeDesc)
    (hp : tmps.getD q undef = .pointer (some ⟨g, 0, none⟩)) (hg : w.heap[g]? = some (.cells cs t fr))
    (hu : P.underlying ty = some d) (hd : (match d with | .struct _ | .array _ _ => true | _ => false) = true) (hi : (P.info? ty).map (·.size) = some cs.size) :
    (results fn tmps).run P w = .ok (.tuple #[tmps.getD p undef, .agg cs, tmps.getD r undef]) w := by
  have hp' : tmps[q]?.getD undef = .pointer (some ⟨g, 0, none⟩) := by simpa using hp
  simp [results, h, hp', asAddr, run_loadVar_row w g t ty cs fr d hg hu hd hi]
theorem results_ct {P : Program} {fn : Func} {q r : Tmp} {ty : TypeId} (h : fn.results = #[.cell q ty, .tmp r]) (tmps : Array Value) (w : World) (g : Nat) (t : TypeId) (cs : Array Value) (fr : Nat × Nat) (d : TypeDesc)
    (hp : tmps.getD q undef = .pointer (some ⟨g, 0, none⟩)) (hg : w.heap[g]? = some (.cells cs t fr))
    (hu : P.underlying ty = some d) (hd : (match d with | .struct _ | .array _ _ => true | _ => false) = true) (hi : (P.info? ty).map (·.size) = some cs.size) :
    (results fn tmps).run P w = .ok (.tuple #[.agg cs, tmps.getD r undef]) w := by
  have hp' : tmps[q]?.getD undef = .pointer (some ⟨g, 0, none⟩) := by simpa using hp
  simp [results, h, hp', asAddr, run_loadVar_row w g t ty cs fr d hg hu hd hi]
theorem results_ctt {P : Program} {fn : Func} {q r s : Tmp} {ty : TypeId} (h : fn.results = #[.cell q ty, .tmp r, .tmp s]) (tmps : Array Value) (w : World) (g : Nat) (t : TypeId) (cs : Array Value) (fr : Nat × Nat) (d : TypeDesc)
    (hp : tmps.getD q undef = .pointer (some ⟨g, 0, none⟩)) (hg : w.heap[g]? = some (.cells cs t fr))
    (hu : P.underlying ty = some d) (hd : (match d with | .struct _ | .array _ _ => true | _ => false) = true) (hi : (P.info? ty).map (·.size) = some cs.size) :
    (results fn tmps).run P w = .ok (.tuple #[.agg cs, tmps.getD r undef, tmps.getD s undef]) w := by
  have hp' : tmps[q]?.getD undef = .pointer (some ⟨g, 0, none⟩) := by simpa using hp
  simp [results, h, hp', asAddr, run_loadVar_row w g t ty cs fr d hg hu hd hi]
end Go.Rw
