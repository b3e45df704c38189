/- Space: the list's facts -/
import Derived.Test.YtlomhelcphhinaaBs
namespace Go.Sp
open Go Go.RowKit Go.Bs

def properB (p f : Int) : Bool := decide (0 ≤ p) && decide (p < 32) && decide (0 ≤ f) && decide (f < 96)
structure Ent where
  p : Int
  f : Int
  wr : Bool
def ent (l : List Ent) (k : Nat) : Ent := l.getD k ⟨0, 0, false⟩
def encE (x : Ent) : List Value := [.int .i64 x.p, .int .i64 x.f, .bool x.wr]
theorem encE_len (x : Ent) : (encE x).length = 3 := rfl
/-- the entries l lie at (b, off) -/
def EntsAt (w : World) (b off : Nat) (l : List Ent) : Prop :=
  ∀ i, i < l.length → w.cell? ⟨b, off + i * 3, none⟩ = some (.int .i64 (ent l i).p) ∧ w.cell? ⟨b, off + i * 3 + 1, none⟩ = some (.int .i64 (ent l i).f) ∧ w.cell? ⟨b, off + i * 3 + 2, none⟩ = some (.bool (ent l i).wr)
/-- v reads as the entries l -/
def SlE (w : World) (v : Value) (l : List Ent) : Prop :=
  ∃ a cap, v = .slice a l.length cap ∧ l.length ≤ cap ∧ (0 < l.length → ∃ b off, a = some ⟨b, off, none⟩ ∧ b < w.heap.size ∧ EntsAt w b off l)
theorem EntsAt.below {w w' : World} {b off : Nat} {l : List Ent} (h : EntsAt w b off l) {B : Nat} (hb : Below B w w') (hB : b < B) : EntsAt w' b off l := fun i hi =>
  ⟨(hb.cell (p := ⟨b, off + i * 3, none⟩) hB).trans (h i hi).1, (hb.cell (p := ⟨b, off + i * 3 + 1, none⟩) hB).trans (h i hi).2.1, (hb.cell (p := ⟨b, off + i * 3 + 2, none⟩) hB).trans (h i hi).2.2⟩
theorem SlE.below {w w' : World} {v : Value} {l : List Ent} (h : SlE w v l) (hb : Below w.heap.size w w') : SlE w' v l := by
  obtain ⟨a, cap, rfl, hc, hh⟩ := h
  refine ⟨a, cap, rfl, hc, fun hl => ?_⟩
  obtain ⟨b, off, rfl, hlt, he⟩ := hh hl
  exact ⟨b, off, rfl, Nat.lt_of_lt_of_le hlt hb.size, he.below hb hlt⟩
theorem ent_get {l : List Ent} {i : Nat} (h : i < l.length) : l[i]? = some (ent l i) := by simp [ent, h]
theorem SlE.of_own {w : World} {base e : Nat} {v : Value} {l : List Ent} (h : w.ownsRow base e 3 v l.length (l.flatMap encE)) : SlE w v l := by
  rcases own_cases h with ⟨rfl, h0, _⟩ | ⟨g, cap, rfl, hb, hlt, hc⟩
  · exact ⟨none, 0, by rw [h0], by omega, fun h' => by omega⟩
  · refine ⟨some ⟨g, 0, none⟩, cap, rfl, hc, fun _ => ⟨g, 0, rfl, hlt, fun i hi => ?_⟩⟩
    have key : ∀ j, j < 3 → ∀ u, (encE (ent l i))[j]? = some u → w.cell? ⟨g, 0 + i * 3 + j, none⟩ = some u := fun j hj u hu => by
      rw [Nat.zero_add]
      exact own_cell h rfl ((flat_get encE encE_len l i j (ent l i) (ent_get hi) hj).trans hu)
    exact ⟨key 0 (by omega) _ rfl, key 1 (by omega) _ rfl, key 2 (by omega) _ rfl⟩

def okAt (l : List Ent) (k : Nat) : Bool := properB (ent l k).p (ent l k).f && (decide (k = 0) || decide ((ent l (k - 1)).p < (ent l k).p))
def validB (l : List Ent) : Bool := (List.range l.length).all (okAt l)
theorem validB_false {l : List Ent} {k : Nat} (hk : k < l.length) (h : okAt l k = false) : validB l = false := by
  unfold validB
  cases hv : (List.range l.length).all (okAt l) with
  | false => rfl
  | true => have := List.all_eq_true.1 hv k (List.mem_range.2 hk); rw [h] at this; cases this
theorem validB_true {l : List Ent} (h : ∀ k, k < l.length → okAt l k = true) : validB l = true :=
  List.all_eq_true.2 fun k hk => h k (List.mem_range.1 hk)
theorem validB_at {l : List Ent} (h : validB l = true) {k : Nat} (hk : k < l.length) : okAt l k = true := List.all_eq_true.1 h k (List.mem_range.2 hk)
theorem valid_bounds {l : List Ent} (h : validB l = true) {k : Nat} (hk : k < l.length) : 0 ≤ (ent l k).p ∧ (ent l k).p < 32 ∧ 0 ≤ (ent l k).f ∧ (ent l k).f < 96 := by
  have := validB_at h hk
  simp [okAt, properB] at this
  exact ⟨this.1.1.1.1, this.1.1.1.2, this.1.1.2, this.1.2⟩
theorem valid_lt {l : List Ent} (h : validB l = true) : ∀ (j i : Nat), i < j → j < l.length → (ent l i).p < (ent l j).p
  | 0, i, hij, _ => by omega
  | j + 1, i, hij, hj => by
    have := validB_at h hj
    simp [okAt] at this
    have h1 := this.2
    by_cases hi : i = j
    · subst hi; exact h1
    · have := valid_lt h j i (by omega) (by omega); omega
theorem valid_le {l : List Ent} (h : validB l = true) {i j : Nat} (hij : i ≤ j) (hj : j < l.length) : (ent l i).p ≤ (ent l j).p := by
  rcases Nat.lt_or_ge i j with h' | h'
  · exact Int.le_of_lt (valid_lt h j i h' hj)
  · have : i = j := by omega
    subst this; exact Int.le_refl _

/-- what a search for a page gives -/
structure Found (l : List Ent) (page : Int) (i : Nat) (fd : Bool) : Prop where
  le : i ≤ l.length
  yes : fd = true → i < l.length ∧ (ent l i).p = page
  no : fd = false → ∀ k, k < l.length → (ent l k).p ≠ page
  pos : 0 ≤ page → page < 32 → (∀ k, k < i → (ent l k).p < page) ∧ (∀ k, i ≤ k → k < l.length → page ≤ (ent l k).p)
theorem Found.of {l : List Ent} (h : validB l = true) {page : Int} {i : Nat} (hi : i ≤ l.length) (hpos : 0 ≤ page → page < 32 → (∀ k, k < i → (ent l k).p < page) ∧ (∀ k, i ≤ k → k < l.length → page ≤ (ent l k).p))
    {fd : Bool} (hy : fd = true → i < l.length ∧ (ent l i).p = page) (hn : fd = false → i < l.length → (ent l i).p ≠ page) : Found l page i fd := by
  refine ⟨hi, hy, fun hf k hk e => ?_, hpos⟩
  have hb := valid_bounds h hk
  obtain ⟨h1, h2⟩ := hpos (by omega) (by omega)
  by_cases hki : k < i
  · have := h1 k hki; omega
  · have hil : i < l.length := by omega
    have := hn hf hil
    have := h2 i (Nat.le_refl _) hil
    have := valid_le h (show i ≤ k by omega) hk
    omega
theorem wrap_zero {page p : Int} (h1 : -9223372036854775808 ≤ page) (h2 : page ≤ 9223372036854775807) (h3 : 0 ≤ p) (h4 : p < 32) : wrap64 (page - p) = 0 ↔ p = page := by
  unfold wrap64; omega
theorem wrap_pos {page p : Int} (h1 : 0 ≤ page) (h2 : page < 32) (h3 : 0 ≤ p) (h4 : p < 32) : wrap64 (page - p) = page - p := by
  unfold wrap64; omega
end Go.Sp
namespace Go.Sp
open Go Go.RowKit Go.Bs
def look (l : List Ent) (page : Int) : Option Ent := l.find? (fun x => x.p == page)
theorem look_none {l : List Ent} {page : Int} (h : ∀ k, k < l.length → (ent l k).p ≠ page) : look l page = none := by
  unfold look
  rw [List.find?_eq_none]
  intro x hx
  obtain ⟨k, hk, rfl⟩ := List.mem_iff_getElem.1 hx
  have := h k hk
  simp [ent, hk] at this
  simpa using this
theorem look_some {l : List Ent} (hv : validB l = true) {page : Int} {i : Nat} (hi : i < l.length) (h : (ent l i).p = page) : look l page = some (ent l i) := by
  unfold look
  cases hf : l.find? (fun x => x.p == page) with
  | none =>
    have := List.find?_eq_none.1 hf l[i] (List.getElem_mem hi)
    simp [ent, hi] at h
    simp [h] at this
  | some x =>
    have hx := List.find?_some hf
    obtain ⟨k, hk, rfl⟩ := List.mem_iff_getElem.1 (List.mem_of_find?_eq_some hf)
    have hk' : (ent l k).p = page := by simp [ent, hk]; simpa using hx
    have : k = i := by
      rcases Nat.lt_trichotomy k i with h' | h' | h'
      · have := valid_lt hv i k h' hi; omega
      · exact h'
      · have := valid_lt hv k i h' hk; omega
    subst this
    simp [ent, hk]
theorem Found.look_yes {l : List Ent} (hv : validB l = true) {page : Int} {i : Nat} (h : Found l page i true) : look l page = some (ent l i) := look_some hv (h.yes rfl).1 (h.yes rfl).2
theorem Found.look_no {l : List Ent} {page : Int} {i : Nat} (h : Found l page i false) : look l page = none := look_none (h.no rfl)
/-- Translate: the frame and the error -/
def tlate (l : List Ent) (page : Int) (wr : Bool) : Int × Int :=
  if validB l then
    match look l page with
    | none => (0, 11)
    | some x => if wr && !x.wr then (0, 11) else (x.f, 0)
  else (0, 1)
structure Pc where
  page : Int
  frame : Int
  fr : Int
  n : Int
def encP (x : Pc) : List Value := [.int .i64 x.page, .int .i64 x.frame, .int .i64 x.fr, .int .i64 x.n]
theorem encP_len (x : Pc) : (encP x).length = 4 := rfl
def chunk (a n : Int) : Int := if 128 - a % 128 < n then 128 - a % 128 else n
/-- the loop of Pieces -/
def pcs (l : List Ent) (wr : Bool) : Nat → Int → Int → List Pc → List Pc × Int × Int
  | 0, _, _, acc => (acc, 0, 0)
  | fuel + 1, a, n, acc => if n ≤ 0 then (acc, 0, 0) else if (tlate l (a / 128) wr).2 ≠ 0 then ([], a / 128, (tlate l (a / 128) wr).2) else
      pcs l wr fuel (a + chunk a n) (n - chunk a n) (acc ++ [⟨a / 128, (tlate l (a / 128) wr).1, a % 128, chunk a n⟩])
def pieces (l : List Ent) (a n : Int) (wr : Bool) : List Pc × Int × Int :=
  if validB l then
    if a < 0 || n < 0 || 4096 < a || 4096 - a < n then ([], 0, 2) else pcs l wr n.toNat a n []
  else ([], 0, 1)
end Go.Sp
