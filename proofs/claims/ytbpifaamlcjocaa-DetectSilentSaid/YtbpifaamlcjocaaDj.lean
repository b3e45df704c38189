/- Detect: masks of tasks; rounds (pairs of masks), read -/
import Derived.Test.YtbpifaamlcjocaaDh
import Derived.Test.YtbpifaamlcjocaaDi
import Derived.Laws.BitsAllLaws
namespace Go.Dt
open Go Go.RowKit Go.Bs Go.Cl Go.Rw
theorem bit_yes {x t : Nat} (hx : x < 4294967296) (h : x.testBit t = true) : bits .and .u32 ((x : Int) / 2 ^ t) 1 = 1 := by
  rw [show ((x : Int) / 2 ^ t) = ((x / 2 ^ t : Nat) : Int) by simp, show (1 : Int) = ((1 : Nat) : Int) from rfl, u32_and_nat _ _ (Nat.lt_of_le_of_lt (Nat.div_le_self _ _) hx) (by omega)]
  rw [Nat.and_one_is_mod]
  have := Nat.testBit_eq_decide_div_mod_eq (x := x) (i := t)
  rw [h] at this
  have h1 : x / 2 ^ t % 2 = 1 := by simpa using this.symm
  rw [h1]
theorem bit_no {x t : Nat} (hx : x < 4294967296) (h : x.testBit t = false) : bits .and .u32 ((x : Int) / 2 ^ t) 1 = 0 := by
  rw [show ((x : Int) / 2 ^ t) = ((x / 2 ^ t : Nat) : Int) by simp, show (1 : Int) = ((1 : Nat) : Int) from rfl, u32_and_nat _ _ (Nat.lt_of_le_of_lt (Nat.div_le_self _ _) hx) (by omega)]
  rw [Nat.and_one_is_mod]
  have := Nat.testBit_eq_decide_div_mod_eq (x := x) (i := t)
  rw [h] at this
  have h1 : ¬ x / 2 ^ t % 2 = 1 := by simpa using this.symm
  have h2 : x / 2 ^ t % 2 = 0 := by omega
  rw [h2]; rfl
/-- asked and not answered -/
def pend (a b : Nat) : Nat := a &&& (4294967295 - b)
theorem pend_bits {a b : Nat} (ha : a < 4294967296) (hb : b < 4294967296) : bits .andNot .u32 (a : Int) (b : Int) = (pend a b : Int) := u32_andNot_nat a b ha hb
theorem pend_lt {a b : Nat} (ha : a < 4294967296) : pend a b < 4294967296 := Nat.lt_of_le_of_lt Nat.and_le_left ha
theorem pend_bit {a b t : Nat} (hb : b < 4294967296) (ht : t < 32) : (pend a b).testBit t = (a.testBit t && !b.testBit t) := by
  unfold pend
  rw [Nat.testBit_and, show 4294967295 - b = 2 ^ 32 - (b + 1) by omega, Nat.testBit_two_pow_sub_succ (by omega)]
  simp [ht]
theorem or_bits {b t : Nat} (hb : b < 4294967296) (ht : t < 32) : bits .or .u32 (b : Int) (IntKind.u32.wrap (1 * 2 ^ t)) = ((b ||| 2 ^ t : Nat) : Int) := by
  have h2 : (2 : Nat) ^ t < 4294967296 := by
    have := Nat.pow_lt_pow_right (a := 2) (by omega) ht
    omega
  have e : IntKind.u32.wrap (1 * (2 : Int) ^ t) = ((2 ^ t : Nat) : Int) := by
    rw [IntKind.wrap_u32', Int.one_mul, show (2 : Int) ^ t = ((2 ^ t : Nat) : Int) by simp]
    generalize 2 ^ t = z at h2 ⊢
    omega
  rw [e, u32_or_nat _ _ hb h2]
theorem or_lt {b t : Nat} (hb : b < 4294967296) (ht : t < 32) : b ||| 2 ^ t < 4294967296 := by
  have h2 : (2 : Nat) ^ t < 2 ^ 32 := Nat.pow_lt_pow_right (by omega) ht
  exact Nat.or_lt_two_pow (n := 32) (by omega) h2
theorem or_bit {b t s : Nat} : (b ||| 2 ^ t).testBit s = (b.testBit s || decide (t = s)) := by
  rw [Nat.testBit_or, Nat.testBit_two_pow]
/-- the tasks of a mask from 1 to k -/
def upTo (x k : Nat) : List Int := ((List.range k).filter fun j => x.testBit (j + 1)).map fun j : Nat => (j : Int) + 1
theorem upTo_yes {x k : Nat} (h : x.testBit (k + 1) = true) : upTo x (k + 1) = upTo x k ++ [(k : Int) + 1] := by simp [upTo, List.range_succ, List.filter_append, h]
theorem upTo_no {x k : Nat} (h : x.testBit (k + 1) = false) : upTo x (k + 1) = upTo x k := by simp [upTo, List.range_succ, List.filter_append, h]
theorem upTo_len (x k : Nat) : (upTo x k).length ≤ k := by
  unfold upTo
  rw [List.length_map]
  exact Nat.le_trans (List.length_filter_le _ _) (by simp)
theorem upTo_mem {x k : Nat} {t : Nat} (h1 : 1 ≤ t) (h2 : t ≤ k) : (t : Int) ∈ upTo x k ↔ x.testBit t = true := by
  unfold upTo
  rw [List.mem_map]
  constructor
  · rintro ⟨j, hj, e⟩
    obtain rfl : t = j + 1 := by omega
    exact (List.mem_filter.1 hj).2
  · intro h
    exact ⟨t - 1, List.mem_filter.2 ⟨List.mem_range.2 (by omega), by rw [show t - 1 + 1 = t by omega]; exact h⟩, by omega⟩
theorem upTo_pr {x : Nat} : ∀ t ∈ upTo x 31, 1 ≤ t ∧ t < 32 := by
  intro t ht
  obtain ⟨j, hj, rfl⟩ := List.mem_map.1 ht
  have := List.mem_range.1 (List.mem_filter.1 hj).1
  omega
/-- a round: whom it asks, who answers -/
structure Rn where
  a : Nat
  b : Nat
def encR (r : Rn) : List Value := [.int .u32 r.a, .int .u32 r.b]
theorem encR_len (r : Rn) : (encR r).length = 2 := rfl
def Rns (w : World) (v : Value) (L : List Rn) : Prop := Raw [] 2 w v L.length (L.flatMap encR) ∧ ∀ r ∈ L, r.a < 4294967296 ∧ r.b < 4294967296
theorem Rns.elem {w : World} {a : Option Addr} {n c : Nat} {L : List Rn} (h : Rns w (.slice a n c) L) {i : Nat} (hi : i < L.length) :
    ∃ b off, a = some ⟨b, off, none⟩ ∧ b < w.heap.size ∧ w.cell? ⟨b, off + i * 2, none⟩ = some (.int .u32 L[i].a) ∧ w.cell? ⟨b, off + i * 2 + 1, none⟩ = some (.int .u32 L[i].b) ∧ L[i].a < 4294967296 ∧ L[i].b < 4294967296 := by
  have hget : L[i]? = some L[i] := List.getElem?_eq_getElem hi
  have hb2 := h.2 _ (List.getElem_mem hi)
  rcases Raw.cases h.1 with ⟨h0, _⟩ | ⟨_, b, off, cap, hv, _, _, hb, _, hc⟩
  · omega
  · cases hv
    exact ⟨b, off, rfl, hb, hc _ _ (flat_get encR encR_len L i 0 _ hget (by omega)), hc _ _ (flat_get encR encR_len L i 1 _ hget (by omega)), hb2.1, hb2.2⟩
end Go.Dt
namespace Go.Proofs.Ytbpifaamlcjocaa
open Go.ChangeShapes Go.WideShapes Go.ChangeAt Go.RowKit Go.Bs Go.Cl Go.Rw Go.Rd Go.Deep Go.Joins Go.Dt
theorem Try.cells27 : Try.prog.cellsOf 27 = 1 := by kernel_rfl
theorem Try.cells28 : Try.prog.cellsOf 28 = 2 := by kernel_rfl
variable {H : Type} {enc : TypeId × Value → H} {W : World}
theorem trod_array2 {P : Program} {w : World} {base : Nat} {spare : Nat → Bool} {held : Bool} {t e : TypeId} {fuel : Nat} {cs : List Value} {x : DataW H × List MemPlace} (ht : P.underlying t = some (.array 2 e)) (hce : P.cellsOf e = 1) (hct : P.cellsOf t = 2)
    (h : DataW.trod enc P w base spare held fuel t cs = some x) :
    ∃ c0 c1 y0 y1 n, cs = [c0, c1] ∧ DataW.trod enc P w base spare held n e [c0] = some y0 ∧ DataW.trod enc P w base spare held n e [c1] = some y1 := by
  cases fuel with
  | zero => simp [DataW.trod] at h
  | succ n =>
    unfold DataW.trod at h
    rw [ht] at h
    have r2 : List.range 2 = [0, 1] := rfl
    simp [r2, hce] at h
    obtain ⟨hl, h⟩ := h
    rw [hct] at hl
    obtain ⟨c0, c1, rfl⟩ : ∃ c0 c1, cs = [c0, c1] := by
      cases cs with
      | nil => simp at hl
      | cons c0 cs => cases cs with
        | nil => simp at hl
        | cons c1 cs => cases cs with
          | nil => exact ⟨c0, c1, rfl⟩
          | cons c2 cs => simp at hl
    simp at h
    cases h0 : DataW.trod enc P w base spare held n e [c0] with
    | none => simp [h0] at h
    | some y0 =>
      cases h1 : DataW.trod enc P w base spare held n e [c1] with
      | none => simp [h0, h1] at h
      | some y1 => exact ⟨c0, c1, y0, y1, n, rfl, h0, h1⟩
theorem wf_u32 {n : Int} (h : (Lit.int .u32 n).wf = true) : ∃ x : Nat, n = x ∧ x < 4294967296 := by
  simp [Lit.wf, IntKind.min, IntKind.max, IntKind.signed, IntKind.bits] at h
  exact ⟨n.toNat, by omega, by omega⟩
set_option maxRecDepth 100000 in
theorem read_rounds {base : Nat} {v : Value} {d : DataW H} {p : List MemPlace} (hv : Value.okWide Try.prog W .any base 22 v)
    (h : DataW.Trod enc Try.prog W 0 (fun _ => true) true 22 v d p) : ∃ L : List Rn, Rns W v L := by
  obtain ⟨l, h2, h3⟩ := read_val (rd := encR) (Rl := fun r => r.a < 4294967296 ∧ r.b < 4294967296) Try.cells28 (by omega) encR_len Try.underlying22 (fun y _ u hu => by
    simp only [encR, List.mem_cons, List.not_mem_nil, or_false] at hu
    rcases hu with rfl | rfl <;> rfl) (fun fuel cs x hx => by
    obtain ⟨c0, c1, y0, y1, n, rfl, g0, g1⟩ := trod_array2 Try.underlying28 Try.cells27 Try.cells28 hx
    obtain ⟨a, e0, _, wa⟩ := DataW.trod_int Try.underlying27 g0
    obtain ⟨b, e1, _, wb⟩ := DataW.trod_int Try.underlying27 g1
    cases e0; cases e1
    obtain ⟨x, rfl, hx1⟩ := wf_u32 wa
    obtain ⟨y, rfl, hy⟩ := wf_u32 wb
    exact ⟨⟨x, y⟩, rfl, hx1, hy⟩) hv h
  exact ⟨l, h2, h3⟩
end Go.Proofs.Ytbpifaamlcjocaa
