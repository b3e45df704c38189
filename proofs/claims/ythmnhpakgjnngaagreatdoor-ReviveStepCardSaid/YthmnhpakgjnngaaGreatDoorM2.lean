/- The wire's integers and byte strings: plain facts. No program in sight. -/
import Derived.Test.YthmnhpakgjnngaaGreatDoorM1
import Derived.Laws.Bits64
import Derived.Laws.Bits64b
import Derived.Test.YthmnhpakgjnngaaGreatDoorRows
namespace Go.Wi
open Go Go.RowKit Go.Bs Go.Cl Go.Rw

def groups (u : Nat) : List UInt8 := if u < 128 then [UInt8.ofNat u] else UInt8.ofNat (128 + u % 128) :: groups (u / 128)
termination_by u
decreasing_by omega
theorem groups_lt {u : Nat} (h : u < 128) : groups u = [UInt8.ofNat u] := by rw [groups, if_pos h]
theorem groups_ge {u : Nat} (h : 128 ≤ u) : groups u = UInt8.ofNat (128 + u % 128) :: groups (u / 128) := by rw [groups, if_neg (by omega)]
theorem groups_pos (u : Nat) : 0 < (groups u).length := by
  by_cases h : u < 128
  · rw [groups_lt h]; simp
  · rw [groups_ge (by omega)]; simp
def zig (n : Int) : Nat := if n < 0 then (-2 * n - 1).toNat else (2 * n).toNat
def zag (u : Nat) : Int := if u % 2 = 1 then -((u / 2 : Nat) : Int) - 1 else ((u / 2 : Nat) : Int)
theorem zag_zig (n : Int) : zag (zig n) = n := by
  unfold zag zig
  by_cases h : n < 0
  · rw [if_pos h, if_pos (by omega)]; omega
  · rw [if_neg h, if_neg (by omega)]; omega
theorem zig_zag (u : Nat) : zig (zag u) = u := by
  unfold zag zig
  by_cases h : u % 2 = 1
  · rw [if_pos h, if_pos (by omega)]; omega
  · rw [if_neg h, if_neg (by omega)]; omega
def fits (n : Int) : Prop := -9223372036854775808 ≤ n ∧ n ≤ 9223372036854775807
theorem zig_lt {n : Int} (h : fits n) : zig n < 2 ^ 64 := by
  unfold fits at h
  unfold zig
  split <;> omega
theorem zag_fits {u : Nat} (h : u < 2 ^ 64) : fits (zag u) := by
  unfold fits zag
  split <;> omega
def encI (n : Int) : List UInt8 := groups (zig n)
def encB (x : List UInt8) : List UInt8 := encI x.length ++ x
theorem u8_of {c : Nat} (h : c < 256) : (UInt8.ofNat c).toNat = c := by simp; omega

/-- reading, from place k on, with the sum u so far: the sum, and how many bytes there were -/
def rdU : List UInt8 → Nat → Nat → Option (Nat × Nat)
  | [], _, _ => none
  | c :: r, k, u => if 10 ≤ k ∨ (k = 9 ∧ 1 < c.toNat) ∨ (0 < k ∧ c.toNat = 0) then none
    else if c.toNat < 128 then some (u + c.toNat * 128 ^ k, k + 1) else rdU r (k + 1) (u + (c.toNat % 128) * 128 ^ k)
theorem rdU_groups : ∀ (v k u : Nat) (t : List UInt8), k ≤ 9 → v < 2 ^ (64 - 7 * k) → (k = 0 ∨ 0 < v) → rdU (groups v ++ t) k u = some (u + v * 128 ^ k, k + (groups v).length) := by
  intro v
  induction v using Nat.strongRecOn with
  | _ v ih =>
    intro k u t hk hv h0
    by_cases h : v < 128
    · rw [groups_lt h]
      simp only [List.cons_append, List.nil_append, rdU, u8_of (show v < 256 by omega), List.length_cons, List.length_nil]
      have h9 : k = 9 → v ≤ 1 := fun e => by subst e; simp at hv; omega
      rw [if_neg (by omega), if_pos h]
    · rw [groups_ge (by omega)]
      have hc : (UInt8.ofNat (128 + v % 128)).toNat = 128 + v % 128 := u8_of (by omega)
      have h9 : k ≤ 8 := by
        rcases Nat.lt_or_ge 8 k with h' | h'
        · have : k = 9 := by omega
          subst this; simp at hv; omega
        · exact h'
      simp only [List.cons_append, rdU, hc, List.length_cons]
      rw [if_neg (by omega), if_neg (by omega)]
      have hp : 2 ^ (64 - 7 * k) = 2 ^ (64 - 7 * (k + 1)) * 128 := by
        rw [show (128 : Nat) = 2 ^ 7 from rfl, ← Nat.pow_add]; congr 1; omega
      rw [ih (v / 128) (by omega) (k + 1) _ t (by omega) (by rw [hp] at hv; exact Nat.div_lt_of_lt_mul (by rw [Nat.mul_comm]; exact hv)) (.inr (by omega))]
      have e1 : (128 + v % 128) % 128 = v % 128 := by omega
      have e2 : u + v % 128 * 128 ^ k + v / 128 * 128 ^ (k + 1) = u + v * 128 ^ k := by
        rw [Nat.pow_succ, Nat.add_assoc, Nat.mul_comm (128 ^ k) 128, ← Nat.mul_assoc, ← Nat.add_mul]
        congr 2; omega
      rw [e1, e2]
      congr 2; omega
theorem rdU_out : ∀ (r : List UInt8) (k u s m : Nat), rdU r k u = some (s, m) → k ≤ 9 ∧ ∃ v, s = u + v * 128 ^ k ∧ v < 2 ^ (64 - 7 * k) ∧ (k = 0 ∨ 0 < v) ∧ m = k + (groups v).length ∧ ∃ t, r = groups v ++ t
  | [], _, _, _, _, h => by simp [rdU] at h
  | c :: r, k, u, s, m, h => by
    have hc := c.toNat_lt
    unfold rdU at h
    split at h
    · cases h
    · rename_i hn
      have hk : k ≤ 9 := by omega
      split at h
      · rename_i hl
        simp at h
        obtain ⟨rfl, rfl⟩ := h
        refine ⟨hk, c.toNat, rfl, ?_, by omega, by rw [groups_lt hl]; simp, r, by rw [groups_lt hl]; simp⟩
        rcases Nat.lt_or_ge k 9 with h' | h'
        · exact Nat.lt_of_lt_of_le (show c.toNat < 2 ^ 8 by omega) (Nat.pow_le_pow_right (by omega) (by omega))
        · have : k = 9 := by omega
          subst this; simp; omega
      · rename_i hl
        obtain ⟨hk1, v, rfl, hv, h0, rfl, t, rfl⟩ := rdU_out r (k + 1) _ s m h
        have hv0 : 0 < v := by omega
        have hge : 128 ≤ c.toNat % 128 + 128 * v := by omega
        have e0 : (c.toNat % 128 + 128 * v) % 128 = c.toNat % 128 := by omega
        have e1 : (c.toNat % 128 + 128 * v) / 128 = v := by omega
        have hg : groups (c.toNat % 128 + 128 * v) = c :: groups v := by
          rw [groups_ge hge, e0, e1, show 128 + c.toNat % 128 = c.toNat by omega]
          simp
        have hp : 2 ^ (64 - 7 * k) = 2 ^ (64 - 7 * (k + 1)) * 128 := by
          rw [show (128 : Nat) = 2 ^ 7 from rfl, ← Nat.pow_add]; congr 1; omega
        refine ⟨hk, c.toNat % 128 + 128 * v, ?_, by rw [hp]; omega, by omega, by rw [hg]; simp; omega, t, by rw [hg]; rfl⟩
        rw [Nat.pow_succ, Nat.add_mul, Nat.add_assoc]
        congr 2
        rw [Nat.mul_comm 128 v, Nat.mul_assoc, Nat.mul_comm (128 ^ k) 128]
/-- an integer, read at a place -/
def rdI (b : List UInt8) (at_ : Nat) : Option (Int × Nat) := (rdU (b.drop at_) 0 0).map fun p => (zag p.1, p.2)
theorem rdI_enc {n : Int} (h : fits n) {b t : List UInt8} {at_ : Nat} (hb : b.drop at_ = encI n ++ t) : rdI b at_ = some (n, (encI n).length) := by
  unfold rdI
  rw [hb, encI, rdU_groups _ _ _ _ (by omega) (zig_lt h) (.inl rfl)]
  simp [zag_zig]
theorem rdI_out {b : List UInt8} {at_ m : Nat} {n : Int} (h : rdI b at_ = some (n, m)) : fits n ∧ m = (encI n).length ∧ ∃ t, b.drop at_ = encI n ++ t := by
  unfold rdI at h
  cases hr : rdU (b.drop at_) 0 0 with
  | none => rw [hr] at h; cases h
  | some p =>
    obtain ⟨s, m'⟩ := p
    rw [hr] at h
    simp at h
    obtain ⟨rfl, rfl⟩ := h
    obtain ⟨_, v, rfl, hv, _, rfl, t, ht⟩ := rdU_out _ _ _ _ _ hr
    simp only [Nat.zero_add, Nat.pow_zero, Nat.mul_one]
    exact ⟨zag_fits (by simpa using hv), by rw [encI, zig_zag], t, by rw [encI, zig_zag]; exact ht⟩
theorem encI_pos (n : Int) : 0 < (encI n).length := groups_pos _
theorem groups_len : ∀ (j u : Nat), 0 < j → u < 128 ^ j → (groups u).length ≤ j
  | 0, _, h, _ => absurd h (Nat.lt_irrefl _)
  | j + 1, u, _, hu => by
    by_cases h : u < 128
    · rw [groups_lt h]; simp
    · rw [groups_ge (by omega), List.length_cons]
      have hj : 0 < j := by
        rcases Nat.eq_zero_or_pos j with rfl | hj
        · simp at hu; omega
        · exact hj
      have := groups_len j (u / 128) hj (Nat.div_lt_of_lt_mul (by rw [Nat.mul_comm, ← Nat.pow_succ]; exact hu))
      omega
theorem groups_len10 {u : Nat} (h : u < 2 ^ 64) : (groups u).length ≤ 10 := groups_len 10 u (by omega) (Nat.lt_of_lt_of_le h (by decide))
theorem encI_len {n : Int} (h : fits n) : (encI n).length ≤ 10 := groups_len10 (zig_lt h)
/-- a row of bytes of a call's own -/
def BRow (e : Nat) (w : World) (base : Nat) (v : Value) (l : List UInt8) : Prop := w.ownsRow base e 1 v l.length (bytesV l)
/-- a row of bytes that has grown to l -/
structure Grows (e : Nat) (w w' : World) (base : Nat) (v v' : Value) (l : List UInt8) : Prop where
  row : BRow e w' base v' l
  keep : Keep v.ownBlock.toList w w'
  news : ∀ f ∈ v'.ownBlock.toList, f ∈ v.ownBlock.toList ∨ w.heap.size ≤ f
theorem Grows.refl {e : Nat} {w : World} {base : Nat} {v : Value} {l : List UInt8} (h : BRow e w base v l) : Grows e w w base v v l := ⟨h, Keep.refl _ _, fun _ hf => .inl hf⟩
theorem Grows.trans {e : Nat} {w w1 w2 : World} {base : Nat} {v v1 v2 : Value} {l l1 : List UInt8} (h : Grows e w w1 base v v1 l1) (h' : Grows e w1 w2 base v1 v2 l) : Grows e w w2 base v v2 l :=
  ⟨h'.row, h.keep.trans h'.keep h.news, fun f hf => by
    rcases h'.news f hf with h1 | h1
    · exact h.news f h1
    · exact .inr (Nat.le_trans h.keep.size h1)⟩
theorem Grows.below {e : Nat} {w w' W : World} {base B : Nat} {v v' : Value} {l l0 : List UInt8} (h : Grows e w w' base v v' l) (h0 : BRow e w base v l0) (hB : B ≤ base) (hbase : base ≤ w.heap.size) (hb : Below B W w) : Below B W w' :=
  hb.trans (h.keep.below (by omega) (fun f hf => by have := (h0.lt f (by simpa using hf)).1; omega))
theorem BRow.below {e : Nat} {w w' : World} {base : Nat} {v : Value} {l : List UInt8} (h : BRow e w base v l) (hb : Below w.heap.size w w') : BRow e w' base v l := own_below h hb (Nat.le_refl _)
theorem BRow.bytes {e : Nat} {w : World} {base : Nat} {v : Value} {l : List UInt8} {F : List Nat} (h : BRow e w base v l) (hF : ∀ f ∈ F, f < base) : Bytes F w v l := Bytes.row h rfl hF
/-- one byte, in a block of its own -/
theorem one_byte {w : World} {g e : Nat} {u : Value} (b : UInt8) (hu : u = byteV b) (h : w.heap[g]? = some (.cells #[u] e (0, 0))) : Raw [] 1 w (.slice (some ⟨g, 0, none⟩) 1 1) 1 (bytesV [b]) := by
  subst hu
  exact Raw.of_block (ys := bytesV [b]) h (by intro h; cases h) (bytesV_one _) rfl (Nat.le_refl _) (by unfold maxLen; omega)
theorem Grows.app {e m : Nat} {w wr w2 : World} {base : Nat} {v bv v2 : Value} {l1 l2 : List UInt8} {o : Obj} (h : Grows e w wr base v bv l1) (hm : m = l2.length) (hown : w2.ownsRow base e 1 v2 (l1.length + m) (bytesV l1 ++ bytesV l2))
    (hk : Keep bv.ownBlock.toList (wr.alloc o) w2) (hn : ∀ f ∈ v2.ownBlock.toList, f ∈ bv.ownBlock.toList ∨ (wr.alloc o).heap.size ≤ f) : Grows e w w2 base v v2 (l1 ++ l2) := by
  subst hm
  refine h.trans ⟨?_, ((Keep.refl bv.ownBlock.toList wr).alloc o).trans hk (fun f hf => .inl hf), fun f hf => ?_⟩
  · show w2.ownsRow base e 1 v2 (l1 ++ l2).length (bytesV (l1 ++ l2))
    rw [List.length_append, bytesV_append]; exact hown
  · rcases hn f hf with h1 | h1
    · exact .inl h1
    · exact .inr (by simp at h1; omega)
theorem xor_max (x : Nat) (h : x < 18446744073709551616) : bits BinOp.xor .u64 IntKind.u64.max x = ((18446744073709551615 - x : Nat) : Int) := by
  have h1 : IntKind.u64.max = ((18446744073709551615 : Nat) : Int) := rfl
  rw [h1, bits_xor_u64_nat _ _ (by omega) h]
  congr 1
  have e : (18446744073709551615 ^^^ x) = ((BitVec.allOnes 64) ^^^ (BitVec.ofNat 64 x)).toNat := by
    rw [BitVec.toNat_xor, BitVec.toNat_allOnes, BitVec.toNat_ofNat, Nat.mod_eq_of_lt h]
  rw [e, BitVec.allOnes_xor, BitVec.toNat_not, BitVec.toNat_ofNat, Nat.mod_eq_of_lt h]
/-- the zigzag of a negative number, as the program makes it -/
theorem zig_neg {n : Int} (h0 : n < 0) (h1 : -9223372036854775808 ≤ n) {z : Nat} (hz : (z : Int) = -2 * n - 1) : bits BinOp.xor .u64 IntKind.u64.max (IntKind.u64.wrap (IntKind.u64.wrap n * 2)) = (z : Int) := by
  have e0 : IntKind.u64.wrap n = n + 18446744073709551616 := by rw [IntKind.wrap_u64]; omega
  rw [e0, IntKind.wrap_u64]
  have e : (n + 18446744073709551616) * 2 % 18446744073709551616 = ((18446744073709551615 - z : Nat) : Int) := by omega
  rw [e, xor_max _ (by omega)]
  omega
/-- a row of one byte, built -/
theorem one_row {w : World} {e : Nat} {u : Value} (b : UInt8) (hu : u = byteV b) : BRow e (w.alloc (.cells #[u] e)) w.heap.size (.slice (some ⟨w.heap.size, 0, none⟩) 1 1) [b] := by
  subst hu
  exact ⟨by simp [bytesV], .inr ⟨w.heap.size, 1, #[byteV b], rfl, Nat.le_refl _, heap_alloc_new w _, Nat.le_refl _, by unfold maxLen; omega, rfl, rfl⟩⟩
theorem and127 : ∀ x : Fin 256, bits BinOp.and .u8 ((x.val : Nat) : Int) 127 = ((x.val % 128 : Nat) : Int) := by decide +kernel
theorem pow7 (k : Nat) : (128 : Nat) ^ k = 2 ^ (7 * k) := by rw [show (128 : Nat) = 2 ^ 7 from rfl, ← Nat.pow_mul]
theorem pow9 : (128 : Nat) ^ 9 = 9223372036854775808 := by decide
theorem pow8 : (128 : Nat) ^ 8 = 72057594037927936 := by decide
theorem le_sum {a b c d : Nat} (h : a ≤ b) (h2 : c ≤ d) (h3 : b + d ≤ 18446744073709551616) : a + c ≤ 18446744073709551616 := by omega
theorem or_bound {x k : Nat} (hk : k ≤ 9) (h9 : k = 9 → x ≤ 1) : x % 128 * 128 ^ k + 128 ^ k ≤ 18446744073709551616 := by
  by_cases e : k = 9
  · have h1 : x % 128 ≤ 1 := by have := h9 e; omega
    subst e
    rw [pow9]
    exact le_sum (Nat.mul_le_mul_right 9223372036854775808 h1) (Nat.le_refl _) (by decide)
  · have hk8 : 128 ^ k ≤ 72057594037927936 := by rw [← pow8]; exact Nat.pow_le_pow_right (by omega) (by omega)
    exact le_sum (Nat.mul_le_mul (show x % 128 ≤ 127 by omega) hk8) hk8 (by decide)
/-- the sum, as the program makes it -/
theorem or_sum {u x k : Nat} (hk : k ≤ 9) (hu : u < 128 ^ k) (hx : x < 256) (h9 : k = 9 → x ≤ 1) : u + x % 128 * 128 ^ k < 18446744073709551616 ∧
    bits BinOp.or .u64 (u : Int) (IntKind.u64.wrap (IntKind.u64.wrap (bits BinOp.and .u8 (x : Int) 127) * (2 : Int) ^ (7 * k))) = ((u + x % 128 * 128 ^ k : Nat) : Int) := by
  rw [show (2 : Int) ^ (7 * k) = ((2 ^ (7 * k) : Nat) : Int) by simp]
  have hp : 128 ^ k ≤ 128 ^ 9 := Nat.pow_le_pow_right (by omega) hk
  have hy := or_bound hk h9
  obtain ⟨P, hP⟩ : ∃ P, 128 ^ k = P := ⟨_, rfl⟩
  rw [hP] at hy hu
  clear hp
  have hp0 : 0 < P := by rw [← hP]; exact Nat.pow_pos (by omega)
  have hP2 : P = 2 ^ (7 * k) := by rw [← hP, pow7]
  rw [hP]
  clear hP
  refine ⟨by omega, ?_⟩
  have ha := and127 ⟨x, hx⟩
  simp only at ha
  have e1 : IntKind.u64.wrap ((x % 128 : Nat) : Int) = ((x % 128 : Nat) : Int) := by rw [IntKind.wrap_u64]; omega
  have e2 : ((x % 128 : Nat) : Int) * ((2 ^ (7 * k) : Nat) : Int) = ((x % 128 * P : Nat) : Int) := by rw [← hP2]; exact (Int.natCast_mul _ _).symm
  have e3 : IntKind.u64.wrap ((x % 128 * P : Nat) : Int) = ((x % 128 * P : Nat) : Int) := by
    rw [IntKind.wrap_u64]
    omega
  rw [ha, e1, e2, e3, bits_or_u64_nat _ _ (by omega) (by omega)]
  congr 1
  rw [Nat.or_comm, Nat.mul_comm, hP2, ← Nat.two_pow_add_eq_or_of_lt (by rw [← hP2]; exact hu), Nat.add_comm, Nat.mul_comm]
theorem half_wrap {v : Nat} (h : v < 18446744073709551616) : wrap64 ((v : Int) / 2) = ((v / 2 : Nat) : Int) := by rw [wrap64]; omega
theorem and_one {v : Nat} (h : v < 18446744073709551616) : bits BinOp.and .u64 (v : Int) 1 = ((v % 2 : Nat) : Int) := by
  have := bits_and_u64_nat v 1 h (by omega)
  rw [Nat.and_one_is_mod] at this
  exact this
theorem zag_even {v : Nat} (h : v % 2 = 0) (hv : v < 18446744073709551616) : wrap64 ((v : Int) / 2) = zag v := by rw [half_wrap hv]; simp [zag, h]
theorem zag_odd {v : Nat} (h : v % 2 = 1) : -((v / 2 : Nat) : Int) - 1 = zag v := by simp [zag, h]
theorem xor_m1 {m : Nat} (h : m < 9223372036854775808) : bits BinOp.xor .i64 (-1) (m : Int) = -(m : Int) - 1 := by
  show IntKind.i64.wrap (((BitVec.ofInt 64 (-1) ^^^ BitVec.ofInt 64 (m : Int)).toNat : Nat) : Int) = _
  have e1 : BitVec.ofInt 64 (-1) = BitVec.allOnes 64 := by decide
  rw [e1, BitVec.allOnes_xor, BitVec.toNat_not, BitVec.ofInt_natCast, BitVec.toNat_ofNat, Nat.mod_eq_of_lt (by omega)]
  rw [IntKind.wrap_i64]
  omega
theorem zag_odd' {v : Nat} (h : v % 2 = 1) (hv : v < 18446744073709551616) : bits BinOp.xor .i64 (-1) ((v : Int) / 2) = zag v := by
  rw [show (v : Int) / 2 = ((v / 2 : Nat) : Int) by omega, xor_m1 (by omega), zag_odd h]
theorem int63 : (2 : Int) ^ (7 * 9) = 9223372036854775808 := by decide
theorem zag_odd2 {v : Nat} (h : v % 2 = 1) (hv : v < 18446744073709551616) : bits BinOp.xor .i64 (-1) (wrap64 ((v : Int) / 2)) = zag v := by rw [half_wrap hv, xor_m1 (by omega), zag_odd h]
end Go.Wi
/- The wire's integers: the program's encoder -/
namespace Go.Proofs.YthmnhpakgjnngaaGreatDoor
open Go.RowKit Go.Bs Go.Cl Go.Rw Go.Wi
theorem elB : Rw.Elem Tryz.prog 28 5 1 1 (.int .u8 0) := ⟨Tryz.underlying28, by kernel_rfl, rfl, by decide⟩
set_option maxRecDepth 100000 in
set_option maxHeartbeats 1000000 in
theorem wint_any (v : Value) (l : List UInt8) (n : Int) (base : Nat) (w : World) (hn : Wi.fits n) (hl : l.length ≤ 1000000) (hown : BRow 5 w base v l) (hbase : base ≤ w.heap.size) :
    Calls Tryz.prog 36 #[v, .int .i64 n] w fun e w' => ∃ v', e = .returned v' ∧ Grows 5 w w' base v v' (l ++ encI n) := by
  obtain ⟨a, c, rfl⟩ := own_slice hown
  have hz : zig n < 18446744073709551616 := zig_lt hn
  have hz10 := encI_len hn
  have Hown := Lib.hid (Grows.refl hown); clear hown
  obtain ⟨z, hze⟩ : ∃ z, zig n = z := ⟨_, rfl⟩
  have hzz : (n < 0 ∧ (z : Int) = -2 * n - 1) ∨ (0 ≤ n ∧ n * 2 = (z : Int)) := by
    rw [← hze]; unfold zig
    by_cases h : n < 0
    · rw [if_pos h]; exact .inl ⟨h, by omega⟩
    · rw [if_neg h]; exact .inr ⟨by omega, by omega⟩
  have henc : encI n = groups z := by rw [encI, hze]
  rw [hze] at hz
  clear hze
  rw [henc] at hz10 ⊢
  obtain ⟨hn1, hn2⟩ := hn
  clear henc
  rcases hzz with ⟨h0, hzz⟩ | ⟨h0, hzz⟩
  · have hx := Lib.hid (zig_neg h0 hn1 hzz)
    have Hz := Lib.hid hz
    clear hzz hz
    go_enter Tryz.func36, Tryz.ntmps36
    go_wp2
    rw [hx.out]
    go_loopw [0, 5] (fun bv uv wr => ∃ (acc : List UInt8) (u : Nat), uv = .int .u64 u ∧ u < 18446744073709551616 ∧ acc ++ groups u = groups z ∧ Grows 5 w wr base (.slice a l.length c) bv (l ++ acc)) (fun _ uv _ => (intOf uv).toNat)
    case atStart => exact ⟨[], z, rfl, Hz.out, rfl, by simpa using Hown.out⟩
    case round =>
      obtain ⟨acc, u, rfl, hu, hacc, hg⟩ := hrel
      have hal : acc.length ≤ 10 := by have := congrArg List.length hacc; simp at this; omega
      have hbw : base ≤ wr.heap.size := Nat.le_trans hbase hg.keep.size
      obtain ⟨la, hla⟩ : ∃ la, l ++ acc = la := ⟨_, rfl⟩
      have hlal : la.length ≤ 1000010 := by rw [← hla]; simp; omega
      rw [hla] at hg
      have Hla := Lib.hid hla; clear hla
      obtain ⟨ga, gc, rfl⟩ := own_slice hg.row
      have Hg := Lib.hid hg; clear hg
      have Hacc := Lib.hid hacc; clear hacc
      have huI : (u : Int) < 18446744073709551616 := by omega
      by_cases h8 : 128 ≤ u
      · have h8' : 128 ≤ (u : Int) := by omega
        have hgr := groups_ge h8
        have Hgr := Lib.hid hgr; clear hgr
        obtain ⟨cb, hcb⟩ : ∃ cb : UInt8, UInt8.ofNat (128 + u % 128) = cb := ⟨_, rfl⟩
        have hcn : cb.toNat = 128 + u % 128 := by rw [← hcb]; exact u8_of (by omega)
        rw [hcb] at Hgr
        have HX := Lib.hid (one_byte (w := wr.alloc (.cells #[.int .u8 (128 + (u : Int) % 128)] 5)) (e := 5) (u := .int .u8 (128 + (u : Int) % 128)) cb (by unfold byteV; rw [hcn]; congr 1) (heap_alloc_new wr _))
        clear hcn hcb
        have HR := Lib.hid (Hg.out.row.alloc (.cells #[.int .u8 (128 + (u : Int) % 128)] 5))
        go_wp2_with (at_builtin; refine wpList_appF elB Tryz.underlying28 HR.out HX.out (Below.refl 0 _) rfl _ _ rfl rfl rfl ?c3 ?cB ?c5 ?_)
        case c3 => omega
        case cB => omega
        case c5 => simp; omega
        intro v2 w2 hown2 _ hk2 hn2
        have hg2 := Hg.out.app rfl hown2 hk2 (by simpa using hn2)
        rw [← Hla.out, List.append_assoc] at hg2
        have Hg2 := Lib.hid hg2
        clear hg2 hown2 hk2 hn2
        go_wp2
        go_roundw
        case rel => exact ⟨acc ++ [cb], u / 128, by go_num, by omega, by rw [List.append_assoc, ← Hacc.out, Hgr.out]; rfl, Hg2.out⟩
        case measure => simp [intOf]; omega
      · have h8' : (u : Int) < 128 := by omega
        clear huI hu
        have hgr := groups_lt (show u < 128 by omega)
        have Hgr := Lib.hid hgr; clear hgr
        obtain ⟨cb, hcb⟩ : ∃ cb : UInt8, UInt8.ofNat u = cb := ⟨_, rfl⟩
        have hcn : cb.toNat = u := by rw [← hcb]; exact u8_of (by omega)
        rw [hcb] at Hgr
        have HX := Lib.hid (one_byte (w := wr.alloc (.cells #[.int .u8 (u : Int)] 5)) (e := 5) (u := .int .u8 (u : Int)) cb (by unfold byteV; rw [hcn]) (heap_alloc_new wr _))
        clear hcn hcb
        have HR := Lib.hid (Hg.out.row.alloc (.cells #[.int .u8 (u : Int)] 5))
        go_wp2_with (at_builtin; refine wpList_appF elB Tryz.underlying28 HR.out HX.out (Below.refl 0 _) rfl _ _ rfl rfl rfl ?c3 ?cB ?c5 ?_)
        case c3 => omega
        case cB => omega
        case c5 => simp; omega
        intro v2 w2 hown2 _ hk2 hn2
        have hg2 := Hg.out.app rfl hown2 hk2 (by simpa using hn2)
        rw [← Hla.out, List.append_assoc, show acc ++ [cb] = groups z by rw [← Hgr.out]; exact Hacc.out] at hg2
        have Hg2 := Lib.hid hg2
        clear hg2 hown2 hk2 hn2
        go_wp2
        go_ret
        exact ⟨_, rfl, Hg2.out⟩
  · have h0' : ¬ n < 0 := by omega
    have Hz := Lib.hid hz
    clear hz
    go_enter Tryz.func36, Tryz.ntmps36
    go_wp2
    go_loopw [0, 5] (fun bv uv wr => ∃ (acc : List UInt8) (u : Nat), uv = .int .u64 u ∧ u < 18446744073709551616 ∧ acc ++ groups u = groups z ∧ Grows 5 w wr base (.slice a l.length c) bv (l ++ acc)) (fun _ uv _ => (intOf uv).toNat)
    case atStart => exact ⟨[], z, rfl, Hz.out, rfl, by simpa using Hown.out⟩
    case round =>
      obtain ⟨acc, u, rfl, hu, hacc, hg⟩ := hrel
      have hal : acc.length ≤ 10 := by have := congrArg List.length hacc; simp at this; omega
      have hbw : base ≤ wr.heap.size := Nat.le_trans hbase hg.keep.size
      obtain ⟨la, hla⟩ : ∃ la, l ++ acc = la := ⟨_, rfl⟩
      have hlal : la.length ≤ 1000010 := by rw [← hla]; simp; omega
      rw [hla] at hg
      have Hla := Lib.hid hla; clear hla
      obtain ⟨ga, gc, rfl⟩ := own_slice hg.row
      have Hg := Lib.hid hg; clear hg
      have Hacc := Lib.hid hacc; clear hacc
      have huI : (u : Int) < 18446744073709551616 := by omega
      by_cases h8 : 128 ≤ u
      · have h8' : 128 ≤ (u : Int) := by omega
        have hgr := groups_ge h8
        have Hgr := Lib.hid hgr; clear hgr
        obtain ⟨cb, hcb⟩ : ∃ cb : UInt8, UInt8.ofNat (128 + u % 128) = cb := ⟨_, rfl⟩
        have hcn : cb.toNat = 128 + u % 128 := by rw [← hcb]; exact u8_of (by omega)
        rw [hcb] at Hgr
        have HX := Lib.hid (one_byte (w := wr.alloc (.cells #[.int .u8 (128 + (u : Int) % 128)] 5)) (e := 5) (u := .int .u8 (128 + (u : Int) % 128)) cb (by unfold byteV; rw [hcn]; congr 1) (heap_alloc_new wr _))
        clear hcn hcb
        have HR := Lib.hid (Hg.out.row.alloc (.cells #[.int .u8 (128 + (u : Int) % 128)] 5))
        go_wp2_with (at_builtin; refine wpList_appF elB Tryz.underlying28 HR.out HX.out (Below.refl 0 _) rfl _ _ rfl rfl rfl ?c3 ?cB ?c5 ?_)
        case c3 => omega
        case cB => omega
        case c5 => simp; omega
        intro v2 w2 hown2 _ hk2 hn2
        have hg2 := Hg.out.app rfl hown2 hk2 (by simpa using hn2)
        rw [← Hla.out, List.append_assoc] at hg2
        have Hg2 := Lib.hid hg2
        clear hg2 hown2 hk2 hn2
        go_wp2
        go_roundw
        case rel => exact ⟨acc ++ [cb], u / 128, by go_num, by omega, by rw [List.append_assoc, ← Hacc.out, Hgr.out]; rfl, Hg2.out⟩
        case measure => simp [intOf]; omega
      · have h8' : (u : Int) < 128 := by omega
        clear huI hu
        have hgr := groups_lt (show u < 128 by omega)
        have Hgr := Lib.hid hgr; clear hgr
        obtain ⟨cb, hcb⟩ : ∃ cb : UInt8, UInt8.ofNat u = cb := ⟨_, rfl⟩
        have hcn : cb.toNat = u := by rw [← hcb]; exact u8_of (by omega)
        rw [hcb] at Hgr
        have HX := Lib.hid (one_byte (w := wr.alloc (.cells #[.int .u8 (u : Int)] 5)) (e := 5) (u := .int .u8 (u : Int)) cb (by unfold byteV; rw [hcn]) (heap_alloc_new wr _))
        clear hcn hcb
        have HR := Lib.hid (Hg.out.row.alloc (.cells #[.int .u8 (u : Int)] 5))
        go_wp2_with (at_builtin; refine wpList_appF elB Tryz.underlying28 HR.out HX.out (Below.refl 0 _) rfl _ _ rfl rfl rfl ?c3 ?cB ?c5 ?_)
        case c3 => omega
        case cB => omega
        case c5 => simp; omega
        intro v2 w2 hown2 _ hk2 hn2
        have hg2 := Hg.out.app rfl hown2 hk2 (by simpa using hn2)
        rw [← Hla.out, List.append_assoc, show acc ++ [cb] = groups z by rw [← Hgr.out]; exact Hacc.out] at hg2
        have Hg2 := Lib.hid hg2
        clear hg2 hown2 hk2 hn2
        go_wp2
        go_ret
        exact ⟨_, rfl, Hg2.out⟩
end Go.Proofs.YthmnhpakgjnngaaGreatDoor
/- The wire's encoders: the reference's integers; byte strings -/
namespace Go.Proofs.YthmnhpakgjnngaaGreatDoor
open Go.RowKit Go.Bs Go.Cl Go.Rw Go.Wi
set_option maxRecDepth 100000 in
set_option maxHeartbeats 1000000 in
theorem rgroups_any (u : Nat) : ∀ (w : World) (x : Int), x = u → u < 18446744073709551616 → Calls Tryz.prog 64 #[.int .u64 x] w fun e w' => ∃ v, e = .returned v ∧ BRow 5 w' w.heap.size v (groups u) ∧ Below w.heap.size w w' := by
  induction u using Nat.strongRecOn with
  | _ u ih =>
    rintro w _ rfl hu
    by_cases h8 : u < 128
    · have h8' : (u : Int) < 128 := by omega
      have hg := Lib.hid (groups_lt h8)
      obtain ⟨cb, hcb⟩ : ∃ cb : UInt8, UInt8.ofNat u = cb := ⟨_, rfl⟩
      have hcn : cb.toNat = u := by rw [← hcb]; exact u8_of (by omega)
      rw [hcb] at hg
      have HR := Lib.hid (one_row (w := w) (e := 5) (u := .int .u8 (u : Int)) cb (by unfold byteV; rw [hcn]))
      clear hcn hcb ih hu
      go_enter Tryz.func64, Tryz.ntmps64
      go_wp2
      go_ret
      exact ⟨_, rfl, by rw [hg.out]; exact HR.out, (Below.refl _ w).alloc (Nat.le_refl _) _⟩
    · have h8' : 128 ≤ (u : Int) := by omega
      have hg := Lib.hid (groups_ge (show 128 ≤ u by omega))
      have Ih := Lib.hid (ih (u / 128) (by omega))
      have hlen := groups_len10 (u := u / 128) (by omega)
      have hu2 : u / 128 < 18446744073709551616 := by omega
      have Hu2 := Lib.hid hu2
      obtain ⟨cb, hcb⟩ : ∃ cb : UInt8, UInt8.ofNat (128 + u % 128) = cb := ⟨_, rfl⟩
      have hcn : cb.toNat = 128 + u % 128 := by rw [← hcb]; exact u8_of (by omega)
      rw [hcb] at hg
      have HR := Lib.hid (one_row (w := w) (e := 5) (u := .int .u8 (128 + (u : Int) % 128)) cb (by unfold byteV; rw [hcn]; congr 1))
      have huI : (u : Int) ≤ 18446744073709551615 := by omega
      clear hcn hcb ih hu2 hu
      go_enter Tryz.func64, Tryz.ntmps64
      go_wp2_with fail
      refine (Ih.out _ _ (by go_num) Hu2.out).mono ?_
      rintro e w1 ⟨v1, rfl, hr1, hb1⟩
      obtain ⟨a1, c1, rfl⟩ := own_slice hr1
      have HR1 := Lib.hid (BRow.below HR.out hb1)
      have HX := Lib.hid (BRow.bytes (F := []) hr1 (fun f hf => by cases hf))
      have hs1 : w.heap.size < w1.heap.size := by have := hb1.size; simp at this; omega
      have hbel1 : Below w.heap.size w w1 := ((Below.refl _ w).alloc (Nat.le_refl _) _).trans (hb1.mono (by simp))
      clear hr1 hb1
      go_wp2_with (at_builtin; refine wpList_app elB Tryz.underlying28 HR1.out HX.out hbel1 rfl _ _ rfl rfl rfl ?c3 ?cB ?c5 ?_)
      case c3 => simp; omega
      case cB => omega
      case c5 => omega
      intro v2 w2 hown2 hbel2 _ _
      have hrow : BRow 5 w2 w.heap.size v2 (groups u) := by
        show w2.ownsRow w.heap.size 5 1 v2 (groups u).length (bytesV (groups u))
        rw [hg.out]
        rw [← bytesV_append] at hown2
        simpa [Nat.add_comm] using hown2
      have Hrow := Lib.hid hrow
      clear hown2 hrow
      go_wp2
      go_ret
      exact ⟨_, rfl, Hrow.out, hbel2⟩
set_option maxHeartbeats 1000000 in
theorem rint_any (n : Int) (w : World) (hn : Wi.fits n) : Calls Tryz.prog 37 #[.int .i64 n] w fun e w' => ∃ v, e = .returned v ∧ BRow 5 w' w.heap.size v (encI n) ∧ Below w.heap.size w w' := by
  have hz : zig n < 18446744073709551616 := zig_lt hn
  have hr := fun w x h => rgroups_any (zig n) w x h hz
  have hzz : (n < 0 ∧ (zig n : Int) = -2 * n - 1) ∨ (0 ≤ n ∧ (zig n : Int) = 2 * n) := by
    unfold zig
    by_cases h : n < 0
    · rw [if_pos h]; exact .inl ⟨h, by omega⟩
    · rw [if_neg h]; exact .inr ⟨by omega, by omega⟩
  have He : Hid (encI n = groups (zig n)) := Lib.hid rfl
  obtain ⟨z, hze⟩ : ∃ z, zig n = z := ⟨_, rfl⟩
  rw [hze] at hr hzz He
  rw [He.out]
  have Hr := Lib.hid hr
  clear hr hz hze He
  obtain ⟨hn1, hn2⟩ := hn
  rcases hzz with ⟨h0, hzz⟩ | ⟨h0, hzz⟩
  · have Hz := Lib.hid hzz; clear hzz
    go_enter Tryz.func37, Tryz.ntmps37
    go_wp2_with fail
    refine (Hr.out _ _ (by have := Hz.out; omega)).mono ?_
    rintro e w1 ⟨v1, rfl, h1, h2⟩
    have H1 := Lib.hid h1; clear h1
    go_wp2
    go_ret
    exact ⟨_, rfl, H1.out, h2⟩
  · have Hz := Lib.hid hzz; clear hzz
    have h0' : ¬ n < 0 := by omega
    go_enter Tryz.func37, Tryz.ntmps37
    go_wp2_with fail
    refine (Hr.out _ _ (by have := Hz.out; omega)).mono ?_
    rintro e w1 ⟨v1, rfl, h1, h2⟩
    have H1 := Lib.hid h1; clear h1
    go_wp2
    go_ret
    exact ⟨_, rfl, H1.out, h2⟩
end Go.Proofs.YthmnhpakgjnngaaGreatDoor
/- The wire's readers: what a reader is; the program reads an integer -/
namespace Go.Wi
open Go Go.RowKit Go.Bs Go.Cl Go.Rw
/-- a reader lies at block g -/
structure RdAt (T : TypeId) (w : World) (g : Nat) (bv : Value) (b : List UInt8) (at_ : Nat) (fl : Bool) : Prop where
  hc : w.heap[g]? = some (.cells #[bv, .int .i64 at_, .bool fl] T (0, 0))
  hb : Bytes [g] w bv b
  ha : at_ ≤ b.length
variable {T : TypeId} {w w' : World} {g at_ : Nat} {bv : Value} {b : List UInt8} {fl : Bool}
theorem RdAt.lt (h : RdAt T w g bv b at_ fl) : g < w.heap.size := (Array.getElem?_eq_some_iff.1 h.hc).1
theorem RdAt.below (h : RdAt T w g bv b at_ fl) (hb : Below w.heap.size w w') : RdAt T w' g bv b at_ fl := ⟨(hb.block g h.lt).trans h.hc, Raw.below h.hb hb, h.ha⟩
theorem RdAt.keep {G : List Nat} (h : RdAt T w g bv b at_ fl) (hk : Keep G w w') (hg : g ∉ G) (hB : Bytes G w bv b) : RdAt T w' g bv b at_ fl :=
  ⟨(hk.block g h.lt hg).trans h.hc, Raw.keep (Raw.both h.hb hB) hk (fun f hf => .inl (List.mem_append_right _ hf)) (fun f hf => .inl (List.mem_append_left _ hf)), h.ha⟩
theorem RdAt.drew (h : RdAt T w g bv b at_ fl) : RdAt T w.drew g bv b at_ fl := ⟨h.hc, h.hb, h.ha⟩
theorem RdAt.pos (h : RdAt T w g bv b at_ fl) {p : Nat} (hp : p ≤ b.length) {x : Int} (hx : x = p) : RdAt T (w.setCell ⟨g, 1, none⟩ (.int .i64 x)) g bv b p fl ∧ Keep [g] w (w.setCell ⟨g, 1, none⟩ (.int .i64 x)) := by
  subst hx
  have hk : Keep [g] w (w.setCell ⟨g, 1, none⟩ (.int .i64 p)) := (Keep.refl [g] w).setCell (by simp) _
  refine ⟨⟨?_, Raw.keep h.hb hk (fun f hf => .inl hf) (fun f hf => .inl hf), hp⟩, hk⟩
  simp only [World.setCell, Array.getElem?_modify]
  simp [h.hc]
theorem RdAt.fail (h : RdAt T w g bv b at_ fl) (fl' : Bool) : RdAt T (w.setCell ⟨g, 2, none⟩ (.bool fl')) g bv b at_ fl' ∧ Keep [g] w (w.setCell ⟨g, 2, none⟩ (.bool fl')) := by
  have hk : Keep [g] w (w.setCell ⟨g, 2, none⟩ (.bool fl')) := (Keep.refl [g] w).setCell (by simp) _
  refine ⟨⟨?_, Raw.keep h.hb hk (fun f hf => .inl hf) (fun f hf => .inl hf), h.ha⟩, hk⟩
  simp only [World.setCell, Array.getElem?_modify]
  simp [h.hc]
/-- a byte of the reader -/
theorem RdAt.byte (h : RdAt T w g bv b at_ fl) {i : Nat} (hi : i < b.length) : ∃ q off c, bv = .slice (some ⟨q, off, none⟩) b.length c ∧ w.cell? ⟨q, off + i, none⟩ = some (byteV b[i]) := by
  rcases Raw.cases h.hb with ⟨h0, _⟩ | ⟨_, q, off, c, hv, _, _, _, _, hc⟩
  · omega
  · exact ⟨q, off, c, hv, hc i _ (by simp [bytesV, hi])⟩
/-- what the program's reading of an integer leaves -/
def IntR (T : TypeId) (w : World) (g : Nat) (bv : Value) (b : List UInt8) (at_ : Nat) (fl : Bool) (e : Ending) (w' : World) : Prop :=
  ∃ n ok p, e = .returned (.tuple #[.int .i64 n, .bool ok]) ∧ RdAt T w' g bv b p fl ∧ Keep [g] w w' ∧ at_ ≤ p ∧ (match rdI b at_ with | some (x, m) => n = x ∧ ok = true ∧ p = at_ + m | none => n = 0 ∧ ok = false)
theorem IntR.some {w' : World} {n : Int} {v m p : Nat} (hrd : rdU (b.drop at_) 0 0 = some (v, m)) (hr : RdAt T w' g bv b p fl) (hk : Keep [g] w w') (hn : n = zag v) (hp : p = at_ + m) : IntR T w g bv b at_ fl (.returned (.tuple #[.int .i64 n, .bool true])) w' :=
  ⟨n, true, p, rfl, hr, hk, by omega, by unfold rdI; rw [hrd]; exact ⟨hn, rfl, hp⟩⟩
theorem IntR.none {w' : World} {p : Nat} (hrd : rdU (b.drop at_) 0 0 = none) (hr : RdAt T w' g bv b p fl) (hk : Keep [g] w w') (hp : at_ ≤ p) : IntR T w g bv b at_ fl (.returned (.tuple #[.int .i64 0, .bool false])) w' :=
  ⟨0, false, p, rfl, hr, hk, hp, by unfold rdI; rw [hrd]; exact ⟨rfl, rfl⟩⟩
theorem rdU_nil {b : List UInt8} {at_ k u : Nat} (h : b.length ≤ at_ + k) : rdU (b.drop (at_ + k)) k u = none := by rw [List.drop_eq_nil_of_le h]; rfl
theorem rdU_ten {l : List UInt8} {u : Nat} : rdU l 10 u = none := by cases l <;> simp [rdU]
theorem rdU_bad {b : List UInt8} {p k u : Nat} (hp : p < b.length) (h : (k = 9 ∧ 1 < b[p].toNat) ∨ (0 < k ∧ b[p].toNat = 0)) : rdU (b.drop p) k u = none := by
  rw [List.drop_eq_getElem_cons hp]; unfold rdU; rw [if_pos (by omega)]
theorem rdU_last {b : List UInt8} {p k u : Nat} (hp : p < b.length) (hk : k < 10) (h1 : ¬ (k = 9 ∧ 1 < b[p].toNat)) (h2 : ¬ (0 < k ∧ b[p].toNat = 0)) (h3 : b[p].toNat < 128) : rdU (b.drop p) k u = some (u + b[p].toNat * 128 ^ k, k + 1) := by
  rw [List.drop_eq_getElem_cons hp]; unfold rdU; rw [if_neg (by omega), if_pos h3]
theorem rdU_more {b : List UInt8} {p k u : Nat} (hp : p < b.length) (hk : k < 10) (h1 : ¬ (k = 9 ∧ 1 < b[p].toNat)) (h3 : 128 ≤ b[p].toNat) : rdU (b.drop p) k u = rdU (b.drop (p + 1)) (k + 1) (u + (b[p].toNat % 128) * 128 ^ k) := by
  rw [List.drop_eq_getElem_cons hp]; rw [rdU, if_neg (by omega), if_neg (by omega)]
end Go.Wi
namespace Go.Proofs.YthmnhpakgjnngaaGreatDoor
open Go.RowKit Go.Bs Go.Cl Go.Rw Go.Wi
set_option maxRecDepth 100000 in
set_option maxHeartbeats 8000000 in
theorem wint63_any (g : Nat) (bv : Value) (b : List UInt8) (at_ : Nat) (fl : Bool) (w : World) (h : RdAt 96 w g bv b at_ fl) (hbl : b.length ≤ 1000000) :
    Calls Tryz.prog 53 #[.pointer (some ⟨g, 0, none⟩)] w (IntR 96 w g bv b at_ fl) := by
  obtain ⟨ba, bc, rfl⟩ := Raw.slice h.hb
  have H := Lib.hid h; clear h
  go_enter Tryz.func53, Tryz.ntmps53
  go_wp2
  go_loopw [4, 5] (fun uv kv wr => ∃ (k u : Nat), kv = .int .i64 k ∧ uv = .int .u64 u ∧ k ≤ 10 ∧ u < 128 ^ k ∧ RdAt 96 wr g (.slice ba b.length bc) b (at_ + k) fl ∧ Keep [g] w wr ∧ rdU (b.drop at_) 0 0 = rdU (b.drop (at_ + k)) k u) (fun _ kv _ => 10 - (intOf kv).toNat)
  case atStart => exact ⟨0, 0, rfl, rfl, by omega, by simp, H.out, Keep.refl _ _, rfl⟩
  case round =>
    obtain ⟨k, u, rfl, rfl, hk, hu, hr, hkp, hrd⟩ := hrel
    have hal := hr.ha
    have Hr := Lib.hid hr
    have Hrd := Lib.hid hrd
    have Hkp := Lib.hid hkp
    have Hu := Lib.hid hu
    have c0 : wr.cell? ⟨g, 0, none⟩ = some (.slice ba b.length bc) := box_at hr.hc rfl
    have c1 : wr.cell? ⟨g, 1, none⟩ = some (.int .i64 ((at_ + k : Nat) : Int)) := box_at hr.hc rfl
    have f1 := box_free hr.hc 1
    clear hr hrd hkp hu
    have hsum : ((at_ + k : Nat) : Int) = (at_ : Int) + k := by omega
    by_cases hin : k < 10 ∧ at_ + k < b.length
    · obtain ⟨hk10, hab⟩ := hin
      obtain ⟨q, off, c, hbe, hcell⟩ := Hr.out.byte hab
      cases hbe
      obtain ⟨x, hx⟩ : ∃ x, b[at_ + k].toNat = x := ⟨_, rfl⟩
      have hx256 : x < 256 := by rw [← hx]; exact UInt8.toNat_lt _
      unfold byteV at hcell
      rw [hx] at hcell
      have hab' : (at_ : Int) + k < b.length := by omega
      have hx0 : 0 ≤ (x : Int) := by omega
      have hx1 : (x : Int) < 256 := by omega
      have Hx := Lib.hid hx; clear hx
      have hpos := Hr.out.pos (p := at_ + k + 1) (x := (at_ : Int) + k + 1) (by omega) (by omega)
      have Hpos := Lib.hid (And.intro hpos.1.drew.drew hpos.2.drew.drew); clear hpos
      rcases Nat.lt_or_ge k 9 with hk9 | hk9
      · have hk9' : (k : Int) < 9 := by omega
        by_cases hbad : 0 < k ∧ x = 0
        · obtain ⟨hb1, hb2⟩ := hbad
          have Hbad := Lib.hid (rdU_bad (u := u) hab (k := k) (.inr ⟨hb1, by rw [Hx.out]; exact hb2⟩))
          subst hb2
          have hb1' : 0 < (k : Int) := by omega
          go_wp2
          refine Txt.wp_txt (by kernel_rfl) (by kernel_rfl) ?_
          go_wp2
          refine Txt.DrawPost.mk0 (by rfl) ?_
          go_wp2
          refine Txt.wp_txt (by kernel_rfl) (by kernel_rfl) ?_
          go_wp2
          refine Txt.DrawPost.mk0 (by rfl) ?_
          go_wp2
          go_ret2
          exact IntR.none (Hrd.out.trans Hbad.out) Hpos.out.1 (Hkp.out.trans Hpos.out.2 (fun f hf => .inl hf)) (by omega)
        · have hor := or_sum (u := u) (x := x) (k := k) (by omega) Hu.out hx256 (fun e => by omega)
          obtain ⟨v, hv⟩ : ∃ v, u + x % 128 * 128 ^ k = v := ⟨_, rfl⟩
          rw [hv] at hor
          obtain ⟨hv64, hor⟩ := hor
          have Hv := Lib.hid hv; clear hv
          by_cases hlast : x < 128
          · have hlast' : (x : Int) < 128 := by omega
            have hl := rdU_last (u := u) hab hk10 (fun h => by omega) (fun h => hbad ⟨h.1, by rw [← Hx.out]; exact h.2⟩) (by rw [Hx.out]; exact hlast)
            rw [Hx.out, show x * 128 ^ k = x % 128 * 128 ^ k by rw [Nat.mod_eq_of_lt hlast], Hv.out] at hl
            have Hl := Lib.hid hl; clear hl
            have hbad2 : (k : Int) = 0 ∨ (x : Int) ≠ 0 := by omega
            have hbit := and_one hv64
            have hw := half_wrap hv64
            have Hv64 := Lib.hid hv64; clear hv64
            rcases Nat.mod_two_eq_zero_or_one v with hpar | hpar
            · rw [hpar] at hbit
              have Hpar := Lib.hid hpar; clear hpar
              go_wp2
              refine Txt.wp_txt (by kernel_rfl) (by kernel_rfl) ?_
              go_wp2
              refine Txt.DrawPost.mk0 (by rfl) ?_
              go_wp2
              refine Txt.wp_txt (by kernel_rfl) (by kernel_rfl) ?_
              go_wp2
              refine Txt.DrawPost.mk0 (by rfl) ?_
              go_wp2
              all_goals
                go_ret2
                have q1 := Hrd.out.trans Hl.out
                have q3 := Hkp.out.trans Hpos.out.2 (fun f hf => .inl hf)
                have q4 := zag_even Hpar.out Hv64.out
                exact IntR.some q1 Hpos.out.1 q3 q4 (by omega)
            · rw [hpar] at hbit
              have Hpar := Lib.hid hpar; clear hpar
              go_wp2
              refine Txt.wp_txt (by kernel_rfl) (by kernel_rfl) ?_
              go_wp2
              refine Txt.DrawPost.mk0 (by rfl) ?_
              go_wp2
              refine Txt.wp_txt (by kernel_rfl) (by kernel_rfl) ?_
              go_wp2
              refine Txt.DrawPost.mk0 (by rfl) ?_
              go_wp2
              all_goals
                go_ret2
                have q1 := Hrd.out.trans Hl.out
                have q3 := Hkp.out.trans Hpos.out.2 (fun f hf => .inl hf)
                have q4 := zag_odd' Hpar.out Hv64.out
                exact IntR.some q1 Hpos.out.1 q3 q4 (by omega)
          · have hlast' : 128 ≤ (x : Int) := by omega
            have hx0' : (x == 0) = false := by simp; omega
            have hl := rdU_more (u := u) hab hk10 (fun h => by omega) (by rw [Hx.out]; omega)
            rw [Hx.out, Hv.out] at hl
            have Hl := Lib.hid hl; clear hl
            have hvu : v < 128 ^ (k + 1) := by
              rw [← Hv.out, Nat.pow_succ]
              have h1 : x % 128 * 128 ^ k ≤ 127 * 128 ^ k := Nat.mul_le_mul_right _ (by omega)
              have h2 := Hu.out
              rw [Nat.mul_comm (128 ^ k) 128]
              generalize 128 ^ k = P at h1 h2 ⊢
              omega
            have Hvu := Lib.hid hvu; clear hvu hv64
            go_wp2
            refine Txt.wp_txt (by kernel_rfl) (by kernel_rfl) ?_
            go_wp2
            refine Txt.DrawPost.mk0 (by rfl) ?_
            go_wp2
            refine Txt.wp_txt (by kernel_rfl) (by kernel_rfl) ?_
            go_wp2
            refine Txt.DrawPost.mk0 (by rfl) ?_
            go_wp2
            all_goals
              go_roundw
              case rel => exact ⟨k + 1, v, by go_num, rfl, by omega, Hvu.out, Hpos.out.1, Hkp.out.trans Hpos.out.2 (fun f hf => .inl hf), by rw [Hrd.out, Hl.out]; rfl⟩
              case measure => simp [intOf]; omega
      · obtain rfl : k = 9 := by omega
        by_cases hbad : 1 < x ∨ x = 0
        · have Hbad := Lib.hid (rdU_bad (u := u) hab (k := 9) (by rw [Hx.out]; omega))
          rcases hbad with hbad | hbad
          · have hbad' : 1 < (x : Int) := by omega
            go_wp2
            refine Txt.wp_txt (by kernel_rfl) (by kernel_rfl) ?_
            go_wp2
            refine Txt.DrawPost.mk0 (by rfl) ?_
            go_wp2
            refine Txt.wp_txt (by kernel_rfl) (by kernel_rfl) ?_
            go_wp2
            refine Txt.DrawPost.mk0 (by rfl) ?_
            go_wp2
            go_ret2
            exact IntR.none (Hrd.out.trans Hbad.out) Hpos.out.1 (Hkp.out.trans Hpos.out.2 (fun f hf => .inl hf)) (by omega)
          · subst hbad
            go_wp2
            refine Txt.wp_txt (by kernel_rfl) (by kernel_rfl) ?_
            go_wp2
            refine Txt.DrawPost.mk0 (by rfl) ?_
            go_wp2
            refine Txt.wp_txt (by kernel_rfl) (by kernel_rfl) ?_
            go_wp2
            refine Txt.DrawPost.mk0 (by rfl) ?_
            go_wp2
            go_ret2
            exact IntR.none (Hrd.out.trans Hbad.out) Hpos.out.1 (Hkp.out.trans Hpos.out.2 (fun f hf => .inl hf)) (by omega)
        · have hx1' : (x : Int) ≤ 1 := by omega
          have hx0' : ((x : Int) == 0) = false := by simp; omega
          have hx128 : (x : Int) < 128 := by omega
          have hor := or_sum (u := u) (x := x) (k := 9) (by omega) Hu.out (by omega) (fun e => by omega)
          obtain ⟨v, hv⟩ : ∃ v, u + x % 128 * 128 ^ 9 = v := ⟨_, rfl⟩
          rw [hv] at hor
          obtain ⟨hv64, hor⟩ := hor
          rw [int63] at hor
          have Hv := Lib.hid hv; clear hv
          have hl := rdU_last (u := u) hab (by omega) (fun h => by rw [Hx.out] at h; omega) (fun h => by rw [Hx.out] at h; omega) (by rw [Hx.out]; omega)
          rw [Hx.out, show x * 128 ^ 9 = x % 128 * 128 ^ 9 by rw [Nat.mod_eq_of_lt (by omega)], Hv.out] at hl
          have Hl := Lib.hid hl; clear hl
          have hbit := and_one hv64
          have Hv64 := Lib.hid hv64; clear hv64 hbad
          rcases Nat.mod_two_eq_zero_or_one v with hpar | hpar
          · rw [hpar] at hbit
            have Hpar := Lib.hid hpar; clear hpar
            go_wp2
            refine Txt.wp_txt (by kernel_rfl) (by kernel_rfl) ?_
            go_wp2
            refine Txt.DrawPost.mk0 (by rfl) ?_
            go_wp2
            refine Txt.wp_txt (by kernel_rfl) (by kernel_rfl) ?_
            go_wp2
            refine Txt.DrawPost.mk0 (by rfl) ?_
            go_wp2
            go_ret2
            have q1 := Hrd.out.trans Hl.out
            have q3 := Hkp.out.trans Hpos.out.2 (fun f hf => .inl hf)
            have q4 := zag_even Hpar.out Hv64.out
            exact IntR.some q1 Hpos.out.1 q3 q4 (by omega)
          · rw [hpar] at hbit
            have Hpar := Lib.hid hpar; clear hpar
            go_wp2
            refine Txt.wp_txt (by kernel_rfl) (by kernel_rfl) ?_
            go_wp2
            refine Txt.DrawPost.mk0 (by rfl) ?_
            go_wp2
            refine Txt.wp_txt (by kernel_rfl) (by kernel_rfl) ?_
            go_wp2
            refine Txt.DrawPost.mk0 (by rfl) ?_
            go_wp2
            go_ret2
            have q1 := Hrd.out.trans Hl.out
            have q3 := Hkp.out.trans Hpos.out.2 (fun f hf => .inl hf)
            have q4 := zag_odd2 Hpar.out Hv64.out
            exact IntR.some q1 Hpos.out.1 q3 q4 (by omega)
    · have hnone : rdU (b.drop (at_ + k)) k u = none := by
        by_cases hk10 : k = 10
        · subst hk10; exact rdU_ten
        · exact rdU_nil (by omega)
      have Hnone := Lib.hid hnone; clear hnone
      have hcase : k = 10 ∨ (k < 10 ∧ b.length = at_ + k) := by omega
      rcases hcase with rfl | ⟨hk10, hbe⟩
      · go_wp2
        refine Txt.wp_txt (by kernel_rfl) (by kernel_rfl) ?_
        go_wp2
        refine Txt.DrawPost.mk0 (by rfl) ?_
        go_wp2
        go_ret2
        exact IntR.none (Hrd.out.trans Hnone.out) Hr.out.drew Hkp.out.drew (by omega)
      · have hk10' : (k : Int) < 10 := by omega
        have hbe' : (b.length : Int) ≤ (at_ : Int) + k := by omega
        go_wp2
        refine Txt.wp_txt (by kernel_rfl) (by kernel_rfl) ?_
        go_wp2
        refine Txt.DrawPost.mk0 (by rfl) ?_
        go_wp2
        go_ret2
        exact IntR.none (Hrd.out.trans Hnone.out) Hr.out.drew Hkp.out.drew (by omega)
end Go.Proofs.YthmnhpakgjnngaaGreatDoor
/- The wire's readers: the program's readers of integers, bounded integers, byte strings -/
namespace Go.Wi
open Go Go.RowKit Go.Bs Go.Cl Go.Rw
/-- an integer between two others -/
def rdB (b : List UInt8) (at_ : Nat) (lo hi : Int) : Option (Int × Nat) := match rdI b at_ with
  | some (x, m) => if lo ≤ x ∧ x ≤ hi then some (x, m) else none
  | none => none
/-- a byte string -/
def rdY (b : List UInt8) (at_ : Nat) (most : Int) : Option (List UInt8 × Nat) := match rdB b at_ 0 most with
  | some (x, m) => if at_ + m + x.toNat ≤ b.length then some ((b.take (at_ + m + x.toNat)).drop (at_ + m), m + x.toNat) else none
  | none => none
/-- what a reader's methods return, and the reader behind them: position, failed -/
def rI (b : List UInt8) (s : Nat × Bool) : Int × Nat × Bool := if s.2 then (0, s) else match rdI b s.1 with
  | some (x, m) => (x, s.1 + m, false)
  | none => (0, s.1, true)
def rB (b : List UInt8) (lo hi : Int) (s : Nat × Bool) : Int × Nat × Bool := if s.2 then (0, s) else match rdB b s.1 lo hi with
  | some (x, m) => (x, s.1 + m, false)
  | none => (0, s.1, true)
def rY (b : List UInt8) (most : Int) (s : Nat × Bool) : List UInt8 × Nat × Bool := if s.2 then ([], s) else match rdY b s.1 most with
  | some (x, m) => (x, s.1 + m, false)
  | none => ([], s.1, true)
theorem rdI_le {b : List UInt8} {at_ m : Nat} {x : Int} (h : rdI b at_ = some (x, m)) : at_ + m ≤ b.length ∧ 0 < m := by
  obtain ⟨_, rfl, t, ht⟩ := rdI_out h
  have := congrArg List.length ht
  have h0 := encI_pos x
  simp at this
  omega
theorem rdB_some {b : List UInt8} {at_ m : Nat} {lo hi x : Int} (h : rdB b at_ lo hi = some (x, m)) : rdI b at_ = some (x, m) ∧ lo ≤ x ∧ x ≤ hi := by
  unfold rdB at h
  cases hr : rdI b at_ with
  | none => rw [hr] at h; cases h
  | some p =>
    obtain ⟨x', m'⟩ := p
    rw [hr] at h
    simp only at h
    split at h
    · cases h; exact ⟨rfl, ‹_›⟩
    · cases h
theorem run_isAgg_plain' {P : Program} {t : TypeId} {d : TypeDesc} (h : P.underlying t = some d) (hd : (match d with | .struct _ | .array _ _ => true | _ => false) = false) (w : World) : (isAgg t).run P w = .ok false w := by
  unfold isAgg
  rw [Sem.run_bind, run_underlying h]
  simp only [Result.andThen_ok]
  cases d <;> first | rfl | (simp at hd)
theorem run_loadVar1 {P : Program} {t : TypeId} {d : TypeDesc} {w : World} {a : Addr} {v : Value} (h : P.underlying t = some d) (hd : (match d with | .struct _ | .array _ _ => true | _ => false) = false) (hc : w.cell? a = some v) : (loadVar t a).run P w = .ok v w := by
  unfold loadVar
  rw [Sem.run_bind, run_isAgg_plain' h hd]
  simp only [Result.andThen_ok, Bool.false_eq_true, if_false]
  simp [hc]
theorem results_cell1 {P : Program} {fn : Func} {p : Tmp} {ty : TypeId} (h : fn.results = #[.cell p ty]) (tmps : Array Value) {w : World} {a : Addr} {v : Value} {d : TypeDesc} (hp : tmps.getD p undef = .pointer (some a))
    (hu : P.underlying ty = some d) (hd : (match d with | .struct _ | .array _ _ => true | _ => false) = false) (hc : w.cell? a = some v) : (results fn tmps).run P w = .ok v w := by
  have hp' : tmps[p]?.getD undef = .pointer (some a) := by simpa using hp
  simp [results, h, hp', asAddr, run_loadVar1 hu hd hc]
theorem run_enter {P : Program} {f : FuncId} {fn : Func} {c : Code} (hf : P.funcs[f]? = some fn) (hname : (fn.name == "runtime.NumGoroutine") = false) (hb : fn.body = some c) (args : Array Value) (w : World) : (callFunc f args).run P w = .ok (.enter f args) w := by
  have h1 : fn.name ≠ "runtime.NumGoroutine" := by simpa using hname
  simp [callFunc, hf, h1, hb]
variable {T : TypeId} {w w' : World} {g at_ : Nat} {bv : Value} {b : List UInt8} {fl : Bool}
def BoundR (T : TypeId) (w : World) (g : Nat) (bv : Value) (b : List UInt8) (at_ : Nat) (lo hi : Int) (fl : Bool) (e : Ending) (w' : World) : Prop :=
  ∃ n ok p, e = .returned (.tuple #[.int .i64 n, .bool ok]) ∧ RdAt T w' g bv b p fl ∧ Keep [g] w w' ∧ at_ ≤ p ∧ (match rdB b at_ lo hi with | some (x, m) => n = x ∧ ok = true ∧ p = at_ + m | none => ok = false)
theorem BoundR.of_some {w' : World} {lo hi n : Int} {m p : Nat} {ok : Bool} (hd : rdI b at_ = some (n, m)) (hr : RdAt T w' g bv b p fl) (hk : Keep [g] w w') (hp : p = at_ + m) (hok : ok = decide (lo ≤ n ∧ n ≤ hi)) : BoundR T w g bv b at_ lo hi fl (.returned (.tuple #[.int .i64 n, .bool ok])) w' := by
  refine ⟨n, ok, p, rfl, hr, hk, by omega, ?_⟩
  unfold rdB
  rw [hd]
  simp only
  by_cases h : lo ≤ n ∧ n ≤ hi
  · rw [if_pos h]; exact ⟨rfl, by simp [hok, h], hp⟩
  · rw [if_neg h]; simp [hok, h]
theorem BoundR.of_none {w' : World} {lo hi n : Int} {p : Nat} (hd : rdI b at_ = none) (hr : RdAt T w' g bv b p fl) (hk : Keep [g] w w') (hp : at_ ≤ p) : BoundR T w g bv b at_ lo hi fl (.returned (.tuple #[.int .i64 n, .bool false])) w' :=
  ⟨n, false, p, rfl, hr, hk, hp, by unfold rdB; rw [hd]⟩
end Go.Wi
namespace Go.Proofs.YthmnhpakgjnngaaGreatDoor
open Go.RowKit Go.Bs Go.Cl Go.Rw Go.Wi
set_option maxHeartbeats 1000000 in
theorem wbounded_any (g : Nat) (bv : Value) (b : List UInt8) (at_ : Nat) (fl : Bool) (lo hi : Int) (w : World) (h : RdAt 96 w g bv b at_ fl) (hbl : b.length ≤ 1000000) :
    Calls Tryz.prog 55 #[.pointer (some ⟨g, 0, none⟩), .int .i64 lo, .int .i64 hi] w (BoundR 96 w g bv b at_ lo hi fl) := by
  have H := Lib.hid h; clear h
  go_enter Tryz.func55, Tryz.ntmps55
  go_wp2_with fail
  refine (wint63_any g bv b at_ fl _ H.out hbl).mono ?_
  rintro e w1 ⟨n, ok, p, rfl, hr, hk, hp, hm⟩
  have Hr := Lib.hid hr
  have Hk := Lib.hid hk
  clear hr hk
  cases hd : rdI b at_ with
  | none =>
    rw [hd] at hm
    obtain ⟨rfl, rfl⟩ := hm
    have Hd := Lib.hid hd; clear hd
    go_wp2
    go_ret2
    exact BoundR.of_none Hd.out Hr.out Hk.out hp
  | some q =>
    obtain ⟨x, m⟩ := q
    rw [hd] at hm
    obtain ⟨rfl, rfl, rfl⟩ := hm
    have Hd := Lib.hid hd; clear hd
    by_cases h1 : lo ≤ n
    · by_cases h2 : n ≤ hi
      · go_wp2
        go_ret2
        exact BoundR.of_some Hd.out Hr.out Hk.out rfl (by simp [h1, h2])
      · have h2' : hi < n := by omega
        go_wp2
        go_ret2
        exact BoundR.of_some Hd.out Hr.out Hk.out rfl (by simp; omega)
    · have h1' : n < lo := by omega
      go_wp2
      go_ret2
      exact BoundR.of_some Hd.out Hr.out Hk.out rfl (by simp; omega)
set_option maxHeartbeats 1000000 in
/-- try, where the reader has failed already -/
theorem wtry_failed (g : Nat) (bv : Value) (b : List UInt8) (at_ : Nat) (fn : Value) (w : World) (h : RdAt 96 w g bv b at_ true) :
    Calls Tryz.prog 51 #[.pointer (some ⟨g, 0, none⟩), fn] w fun e w' => (∃ v, e = .returned v) ∧ w = w' := by
  have c2 := box_at h.hc (j := 2) rfl
  clear h
  go_enter Tryz.func51, Tryz.ntmps51
  go_wp2
  (try simp only [Exit.inBlock, Exit.then]); refine bodyPost_ret (results_none rfl _ _ _) rfl ?_
  exact ⟨⟨_, rfl⟩, rfl⟩
set_option maxHeartbeats 1000000 in
/-- try, with a closure -/
theorem wtry_any (g : Nat) (bv : Value) (b : List UInt8) (at_ : Nat) (F : FuncId) (caps : Array Value) (R : Bool → Nat → World → Prop) (w : World) (h : RdAt 96 w g bv b at_ false)
    (hcf : ∀ w, (callFunc F caps).run Tryz.prog w = .ok (.enter F caps) w) (hc : Calls Tryz.prog F caps w fun e w1 => ∃ ok p, e = .returned (.bool ok) ∧ RdAt 96 w1 g bv b p false ∧ R ok p w1) :
    Calls Tryz.prog 51 #[.pointer (some ⟨g, 0, none⟩), .func (.func F) #[] caps] w fun e w' => (∃ v, e = .returned v) ∧ ∃ ok p w1, R ok p w1 ∧ (if ok then w' = w1 ∧ RdAt 96 w' g bv b p false else RdAt 96 w' g bv b at_ true ∧ Keep [g] w1 w') := by
  have c1 := box_at h.hc (j := 1) rfl
  have c2 := box_at h.hc (j := 2) rfl
  have ha := h.ha
  have Hc := Lib.hid hc; clear hc h
  go_enter Tryz.func51, Tryz.ntmps51
  go_wp2_with fail
  refine Hc.out.mono ?_
  rintro e w1 ⟨ok, p, rfl, hr, hR⟩
  cases ok
  · have h1 := hr.pos (p := at_) (x := at_) ha rfl
    have h2 := h1.1.fail true
    have c1 : w1.cell? ⟨g, 1, none⟩ = some (.int .i64 p) := box_at hr.hc rfl
    have f1 := box_free hr.hc 1
    have c2 : w1.cell? ⟨g, 2, none⟩ = some (.bool false) := box_at hr.hc rfl
    have f2 := box_free hr.hc 2
    have H2 := Lib.hid (And.intro h2.1 (h1.2.trans h2.2 (fun f hf => .inl hf)))
    have HR := Lib.hid hR
    clear h1 h2 hr hR
    go_wp2
    go_end0
    exact ⟨⟨_, rfl⟩, false, p, w1, HR.out, by simpa using H2.out⟩
  · have HR := Lib.hid hR
    have Hr := Lib.hid hr
    clear hr hR
    go_wp2
    go_end0
    exact ⟨⟨_, rfl⟩, true, p, w1, HR.out, by simpa using Hr.out⟩
end Go.Proofs.YthmnhpakgjnngaaGreatDoor
/- The wire's readers: the program's Int, Bounded, Bytes, Read, End -/
namespace Go.Wi
open Go Go.RowKit Go.Bs Go.Cl Go.Rw
/-- the reader behind a method -/
def RdR (T : TypeId) (w : World) (g : Nat) (bv : Value) (b : List UInt8) (s : Nat × Bool) (w' : World) : Prop := RdAt T w' g bv b s.1 s.2 ∧ Keep [g] w w'
/-- n, ok and the position p are what reading at at_ gives -/
def IsI (b : List UInt8) (at_ : Nat) (n : Int) (ok : Bool) (p : Nat) : Prop := match rdI b at_ with | some (x, m) => n = x ∧ ok = true ∧ p = at_ + m | none => n = 0 ∧ ok = false
theorem IsI.done {b : List UInt8} {at_ p : Nat} {n : Int} {ok : Bool} (h : IsI b at_ n ok p) : rI b (at_, false) = (n, if ok then (p, false) else (at_, true)) := by
  unfold IsI at h
  unfold rI
  simp only [Bool.false_eq_true, if_false]
  cases hd : rdI b at_ with
  | none => rw [hd] at h; obtain ⟨rfl, rfl⟩ := h; rfl
  | some q => obtain ⟨x, m⟩ := q; rw [hd] at h; obtain ⟨rfl, rfl, rfl⟩ := h; rfl
theorem box_set {w : World} {r : Nat} {x u : Value} {t : TypeId} {fz : Nat × Nat} (h : w.heap[r]? = some (.cells #[x] t fz)) : (w.setCell ⟨r, 0, none⟩ u).heap[r]? = some (.cells #[u] t fz) := by
  simp only [World.setCell, Array.getElem?_modify]; simp [h]
theorem RdAt.ne {T : TypeId} {w : World} {g at_ : Nat} {bv : Value} {b : List UInt8} {fl : Bool} (h : RdAt T w g bv b at_ fl) {r : Nat} (hr : w.heap.size ≤ r) : r ≠ g := by have := h.lt; omega
end Go.Wi
namespace Go.Proofs.YthmnhpakgjnngaaGreatDoor
open Go.RowKit Go.Bs Go.Cl Go.Rw Go.Wi
set_option maxHeartbeats 1000000 in
/-- the closure of Int -/
theorem wintC_any (g r0 r1 : Nat) (bv : Value) (b : List UInt8) (at_ : Nat) (w : World) (h : RdAt 96 w g bv b at_ false) (hbl : b.length ≤ 1000000) (h0 : w.heap[r0]? = some (.cells #[.pointer (some ⟨g, 0, none⟩)] 62 (0, 0))) (h1 : w.heap[r1]? = some (.cells #[.int .i64 0] 3 (0, 0))) (hr0 : r0 ≠ g) (hr1 : r1 ≠ g) (hb1 : Bytes [r1] w bv b) :
    Calls Tryz.prog 52 #[.pointer (some ⟨r0, 0, none⟩), .pointer (some ⟨r1, 0, none⟩)] w fun e w1 => ∃ ok p, e = .returned (.bool ok) ∧ RdAt 96 w1 g bv b p false ∧
      (Keep [g, r1] w w1 ∧ ∃ n, w1.heap[r1]? = some (.cells #[.int .i64 n] 3 (0, 0)) ∧ IsI b at_ n ok p) := by
  have c0 := box_at h0 (j := 0) rfl
  have hl0 : r0 < w.heap.size := (Array.getElem?_eq_some_iff.1 h0).1
  have hl1 : r1 < w.heap.size := (Array.getElem?_eq_some_iff.1 h1).1
  have H := Lib.hid h; clear h h0
  have H1 := Lib.hid h1; clear h1
  have HB1 := Lib.hid hb1; clear hb1
  go_enter Tryz.func52, Tryz.ntmps52
  go_wp2_with fail
  refine (wint63_any g bv b at_ false _ H.out hbl).mono ?_
  rintro e w1 ⟨n, ok, p, rfl, hr, hk, hp, hm⟩
  have hh1 := (hk.block r1 hl1 (by simpa using hr1)).trans H1.out
  have c1 := box_at hh1 (j := 0) rfl
  have f1 := box_free hh1 0
  have hk2 : Keep [r1] w1 (w1.setCell ⟨r1, 0, none⟩ (.int .i64 n)) := (Keep.refl [r1] w1).setCell (by simp) _
  have hr2 := hr.keep hk2 (by simp; exact fun e => hr1 e.symm) (Raw.keep (Raw.both (Raw.to_nil H.out.hb) (Raw.both H.out.hb HB1.out)) hk (fun f hf => .inl (by simp at hf ⊢; exact .inl hf)) (fun f hf => .inl (by simp at hf ⊢; exact .inr hf)))
  have Hr2 := Lib.hid hr2
  have Hk := Lib.hid ((hk.mono (F' := [g, r1]) (fun f hf => .inl (by simp at hf ⊢; exact .inl hf))).trans hk2 (fun f hf => .inl (by simp at hf ⊢; exact .inr hf)))
  have Hm : Hid (IsI b at_ n ok p) := Lib.hid hm
  have hc : (w1.setCell ⟨r1, 0, none⟩ (.int .i64 n)).heap[r1]? = some (.cells #[.int .i64 n] 3 (0, 0)) := box_set hh1
  have Hc := Lib.hid hc
  clear hr hk hm hk2 hr2 hc
  go_wp2
  go_ret
  exact ⟨ok, p, rfl, Hr2.out, Hk.out, n, Hc.out, Hm.out⟩
set_option maxHeartbeats 1000000 in
theorem wInt_any (g : Nat) (bv : Value) (b : List UInt8) (at_ : Nat) (fl : Bool) (w : World) (h : RdAt 96 w g bv b at_ fl) (hbl : b.length ≤ 1000000) :
    Calls Tryz.prog 22 #[.pointer (some ⟨g, 0, none⟩)] w fun e w' => e = .returned (.int .i64 (rI b (at_, fl)).1) ∧ RdR 96 w g bv b (rI b (at_, fl)).2 w' := by
  have hb0 := (Below.refl w.heap.size w).alloc (Nat.le_refl _) (.cells #[.pointer (some ⟨g, 0, none⟩)] 62)
  have hb := hb0.alloc (by simp) (.cells #[.int .i64 0] 3)
  have hlt := h.lt
  have H := Lib.hid (h.below hb)
  have hB1 : Bytes [w.heap.size + 1] ((w.alloc (.cells #[.pointer (some ⟨g, 0, none⟩)] 62)).alloc (.cells #[.int .i64 0] 3)) bv b := Raw.keep h.hb (Keep.of_below' (F := []) hb) (fun f hf => by cases hf) (fun f hf => by rw [List.mem_singleton.1 hf]; exact .inr (by omega))
  have HB1 := Lib.hid hB1
  have Hb := Lib.hid hb
  have Hw := Lib.hid h.hb
  clear hb hb0 hB1 h
  cases fl
  · have hcl := wintC_any g w.heap.size (w.heap.size + 1) bv b at_ _ H.out hbl (by rw [heap_alloc_old _ _ (by simp)]; exact heap_alloc_new w _) (heap_alloc2_new w _ _) (by omega) (by omega) HB1.out
    have htry := wtry_any g bv b at_ _ _ _ _ H.out (run_enter Tryz.func52 (by kernel_rfl) rfl _) hcl
    have Htry := Lib.hid htry; clear htry hcl
    go_enter Tryz.func22, Tryz.ntmps22
    go_wp2_with fail
    refine Htry.out.mono ?_
    rintro e w1 ⟨⟨v, rfl⟩, ok, p, w2, ⟨hk, n, hn, hm⟩, hfin⟩
    have hk1 : RdR 96 w g bv b (if ok then (p, false) else (at_, true)) w1 ∧ w1.heap[w.heap.size + 1]? = some (.cells #[.int .i64 n] 3 (0, 0)) := by
      have hkw : Keep [g] w w2 := ((Keep.of_below' (F := [g, w.heap.size + 1]) Hb.out).trans hk (fun f hf => .inl hf)).mono (fun f hf => by simp at hf ⊢; omega)
      have hs2 : w.heap.size + 1 < w2.heap.size := by have := hk.size; simp at this; omega
      cases ok
      · obtain ⟨h1, h2⟩ := hfin
        have hk2 := hkw.trans h2 (fun f hf => .inl hf)
        exact ⟨⟨h1, hk2⟩, (h2.block _ hs2 (by simp; omega)).trans hn⟩
      · obtain ⟨rfl, h1⟩ := hfin
        exact ⟨⟨h1, hkw⟩, hn⟩
    obtain ⟨hR, hn1⟩ := hk1
    have c1 := box_at hn1 (j := 0) rfl
    have f1 := box_free hn1 0
    have hend : RdR 96 w g bv b (if ok then (p, false) else (at_, true)) (w1.setCell ⟨w.heap.size + 1, 0, none⟩ (.int .i64 n)) := by
      have hks : Keep [w.heap.size + 1] w1 (w1.setCell ⟨w.heap.size + 1, 0, none⟩ (.int .i64 n)) := (Keep.refl [w.heap.size + 1] w1).setCell (by simp) _
      exact ⟨hR.1.keep hks (by simp; omega) (Raw.keep Hw.out hR.2 (fun f hf => .inl hf) (fun f hf => .inr (by simp at hf; omega))), (hR.2.trans hks (fun f hf => .inr (by simp at hf; omega)))⟩
    have hd := hm.done
    have Hend := Lib.hid hend
    have Hd := Lib.hid hd
    have Hn1 := Lib.hid (box_at (box_set (u := .int .i64 n) hn1) (j := 0) rfl)
    clear hk hn hm hfin hR hend hd hn1
    go_wp2
    refine bodyPost_ret (results_cell1 rfl _ rfl Tryz.underlying3 rfl Hn1.out) rfl ?_
    rw [Hd.out]
    exact ⟨rfl, Hend.out⟩
  · have hcell := box_at (heap_alloc2_new w (.cells #[.pointer (some ⟨g, 0, none⟩)] 62) (.cells #[.int .i64 0] 3)) (j := 0) rfl
    have Hend : Hid (RdR 96 w g bv b (at_, true) ((w.alloc (.cells #[.pointer (some ⟨g, 0, none⟩)] 62)).alloc (.cells #[.int .i64 0] 3))) := Lib.hid ⟨H.out, Keep.of_below' Hb.out⟩
    have Hn1 := Lib.hid hcell
    clear hcell
    have Htry := Lib.hid (fun fn => wtry_failed g bv b at_ fn _ H.out)
    go_enter Tryz.func22, Tryz.ntmps22
    go_wp2_with fail
    refine (Htry.out _).mono ?_
    rintro e w1 ⟨⟨v, rfl⟩, rfl⟩
    go_wp2
    refine bodyPost_ret (results_cell1 rfl _ rfl Tryz.underlying3 rfl Hn1.out) rfl ?_
    exact ⟨rfl, Hend.out⟩
end Go.Proofs.YthmnhpakgjnngaaGreatDoor
/- The wire's readers: the program's Bounded -/
namespace Go.Wi
open Go Go.RowKit Go.Bs Go.Cl Go.Rw
def IsB (b : List UInt8) (at_ : Nat) (lo hi : Int) (n : Int) (ok : Bool) (p : Nat) : Prop := match rdB b at_ lo hi with | some (x, m) => n = x ∧ ok = true ∧ p = at_ + m | none => n = 0 ∧ ok = false
theorem IsB.done {b : List UInt8} {at_ p : Nat} {lo hi n : Int} {ok : Bool} (h : IsB b at_ lo hi n ok p) : rB b lo hi (at_, false) = (n, if ok then (p, false) else (at_, true)) := by
  unfold IsB at h
  unfold rB
  simp only [Bool.false_eq_true, if_false]
  cases hd : rdB b at_ lo hi with
  | none => rw [hd] at h; obtain ⟨rfl, rfl⟩ := h; rfl
  | some q => obtain ⟨x, m⟩ := q; rw [hd] at h; obtain ⟨rfl, rfl, rfl⟩ := h; rfl
theorem IsB.of {b : List UInt8} {at_ p : Nat} {lo hi n : Int} {ok : Bool} (h : match rdB b at_ lo hi with | some (x, m) => n = x ∧ ok = true ∧ p = at_ + m | none => ok = false) : IsB b at_ lo hi (if ok then n else 0) ok p := by
  unfold IsB
  cases hd : rdB b at_ lo hi with
  | none => rw [hd] at h; simp only at h; subst h; exact ⟨rfl, rfl⟩
  | some q => obtain ⟨x, m⟩ := q; rw [hd] at h; obtain ⟨rfl, rfl, rfl⟩ := h; exact ⟨rfl, rfl, rfl⟩
end Go.Wi
namespace Go.Proofs.YthmnhpakgjnngaaGreatDoor
open Go.RowKit Go.Bs Go.Cl Go.Rw Go.Wi
set_option maxHeartbeats 1000000 in
/-- the closure of Bounded -/
theorem wboundedC_any (g r0 r1 r2 r3 : Nat) (bv : Value) (b : List UInt8) (at_ : Nat) (lo hi : Int) (w : World) (h : RdAt 96 w g bv b at_ false) (hbl : b.length ≤ 1000000)
    (c0 : w.cell? ⟨r0, 0, none⟩ = some (.pointer (some ⟨g, 0, none⟩))) (c1 : w.cell? ⟨r1, 0, none⟩ = some (.int .i64 lo)) (c2 : w.cell? ⟨r2, 0, none⟩ = some (.int .i64 hi))
    (h3 : w.heap[r3]? = some (.cells #[.int .i64 0] 3 (0, 0))) (hr3 : r3 ≠ g) (hb3 : Bytes [r3] w bv b) :
    Calls Tryz.prog 57 #[.pointer (some ⟨r0, 0, none⟩), .pointer (some ⟨r1, 0, none⟩), .pointer (some ⟨r2, 0, none⟩), .pointer (some ⟨r3, 0, none⟩)] w fun e w1 => ∃ ok p, e = .returned (.bool ok) ∧ RdAt 96 w1 g bv b p false ∧
      (Keep [g, r3] w w1 ∧ ∃ n, w1.heap[r3]? = some (.cells #[.int .i64 n] 3 (0, 0)) ∧ IsB b at_ lo hi n ok p) := by
  have hl3 : r3 < w.heap.size := (Array.getElem?_eq_some_iff.1 h3).1
  have H := Lib.hid h; clear h
  have H3 := Lib.hid h3; clear h3
  have HB3 := Lib.hid hb3; clear hb3
  go_enter Tryz.func57, Tryz.ntmps57
  go_wp2_with fail
  refine (wbounded_any g bv b at_ false lo hi _ H.out hbl).mono ?_
  rintro e w1 ⟨n, ok, p, rfl, hr, hk, hp, hm⟩
  have hh3 := (hk.block r3 hl3 (by simpa using hr3)).trans H3.out
  have hm := IsB.of hm
  have HB1 := Lib.hid (Raw.keep (F' := [r3]) (Raw.both H.out.hb HB3.out) hk (fun f hf => .inl (by simp at hf ⊢; exact .inl hf)) (fun f hf => .inl (by simp at hf ⊢; exact .inr hf)))
  have hk1 := hk.mono (F' := [g, r3]) (fun f hf => .inl (by simp at hf ⊢; exact .inl hf))
  cases ok
  · have Hf := Lib.hid (And.intro hr (And.intro hk1 (And.intro hh3 hm)))
    clear hr hk hm hh3 hk1
    go_wp2
    go_ret
    exact ⟨false, p, rfl, Hf.out.1, Hf.out.2.1, 0, Hf.out.2.2.1, Hf.out.2.2.2⟩
  · have c3 := box_at hh3 (j := 0) rfl
    have f3 := box_free hh3 0
    have hk2 : Keep [r3] w1 (w1.setCell ⟨r3, 0, none⟩ (.int .i64 n)) := (Keep.refl [r3] w1).setCell (by simp) _
    have hr2 := hr.keep hk2 (by simp; exact fun e => hr3 e.symm) HB1.out
    have hc : (w1.setCell ⟨r3, 0, none⟩ (.int .i64 n)).heap[r3]? = some (.cells #[.int .i64 n] 3 (0, 0)) := box_set hh3
    have Hf := Lib.hid (And.intro hr2 (And.intro (hk1.trans hk2 (fun f hf => .inl (by simp at hf ⊢; exact .inr hf))) (And.intro hc hm)))
    clear hr hk hm hh3 hk1 hk2 hr2 hc
    go_wp2
    go_ret
    exact ⟨true, p, rfl, Hf.out.1, Hf.out.2.1, n, Hf.out.2.2.1, Hf.out.2.2.2⟩
set_option maxHeartbeats 1000000 in
theorem wBounded_any (g : Nat) (bv : Value) (b : List UInt8) (at_ : Nat) (fl : Bool) (lo hi : Int) (w : World) (h : RdAt 96 w g bv b at_ fl) (hbl : b.length ≤ 1000000) :
    Calls Tryz.prog 24 #[.pointer (some ⟨g, 0, none⟩), .int .i64 lo, .int .i64 hi] w fun e w' => e = .returned (.int .i64 (rB b lo hi (at_, fl)).1) ∧ RdR 96 w g bv b (rB b lo hi (at_, fl)).2 w' := by
  obtain ⟨W, hW⟩ : ∃ W, W = (((w.alloc (.cells #[.pointer (some ⟨g, 0, none⟩)] 62)).alloc (.cells #[.int .i64 lo] 3)).alloc (.cells #[.int .i64 hi] 3)).alloc (.cells #[.int .i64 0] 3) := ⟨_, rfl⟩
  have hb : Below w.heap.size w W := by
    rw [hW]
    exact ((((Below.refl w.heap.size w).alloc (Nat.le_refl _) _).alloc (by simp) _).alloc (by simp; omega) _).alloc (by simp; omega) _
  have hsz : W.heap.size = w.heap.size + 4 := by rw [hW]; simp
  have c0 : W.cell? ⟨w.heap.size, 0, none⟩ = some (.pointer (some ⟨g, 0, none⟩)) := by rw [hW]; go_simp
  have c1 : W.cell? ⟨w.heap.size + 1, 0, none⟩ = some (.int .i64 lo) := by rw [hW]; go_simp
  have c2 : W.cell? ⟨w.heap.size + 2, 0, none⟩ = some (.int .i64 hi) := by rw [hW]; go_simp
  have h3 : W.heap[w.heap.size + 3]? = some (.cells #[.int .i64 0] 3 (0, 0)) := by
    rw [hW]
    have := heap_alloc_new (((w.alloc (.cells #[.pointer (some ⟨g, 0, none⟩)] 62)).alloc (.cells #[.int .i64 lo] 3)).alloc (.cells #[.int .i64 hi] 3)) (.cells #[.int .i64 0] 3)
    simpa using this
  have hlt := h.lt
  have H := Lib.hid (h.below hb)
  have hB1 : Bytes [w.heap.size + 3] W bv b := Raw.keep h.hb (Keep.of_below' (F := []) hb) (fun f hf => by cases hf) (fun f hf => by rw [List.mem_singleton.1 hf]; exact .inr (by omega))
  have Hw := Lib.hid h.hb
  have HB1 := Lib.hid hB1
  have Hb := Lib.hid hb
  have H3 := Lib.hid h3
  have Hsz := Lib.hid hsz
  clear hb hB1 h
  cases fl
  · have hcl := wboundedC_any g w.heap.size (w.heap.size + 1) (w.heap.size + 2) (w.heap.size + 3) bv b at_ lo hi _ H.out hbl c0 c1 c2 h3 (by omega) HB1.out
    have htry := wtry_any g bv b at_ _ _ _ _ H.out (run_enter Tryz.func57 (by kernel_rfl) rfl _) hcl
    have Htry := Lib.hid htry; clear htry hcl c0 c1 c2 h3 hsz
    go_enter Tryz.func24, Tryz.ntmps24
    go_wp2_with fail
    rw [← hW]
    refine Htry.out.mono ?_
    rintro e w1 ⟨⟨v, rfl⟩, ok, p, w2, ⟨hk, n, hn, hm⟩, hfin⟩
    clear hW
    have hk1 : RdR 96 w g bv b (if ok then (p, false) else (at_, true)) w1 ∧ w1.heap[w.heap.size + 3]? = some (.cells #[.int .i64 n] 3 (0, 0)) := by
      have hkw : Keep [g] w w2 := ((Keep.of_below' (F := [g, w.heap.size + 3]) Hb.out).trans hk (fun f hf => .inl hf)).mono (fun f hf => by simp at hf ⊢; omega)
      have hs2 : w.heap.size + 3 < w2.heap.size := by have := hk.size; rw [Hsz.out] at this; omega
      cases ok
      · obtain ⟨h1, h2⟩ := hfin
        have hk2 := hkw.trans h2 (fun f hf => .inl hf)
        exact ⟨⟨h1, hk2⟩, (h2.block _ hs2 (by simp; omega)).trans hn⟩
      · obtain ⟨rfl, h1⟩ := hfin
        exact ⟨⟨h1, hkw⟩, hn⟩
    obtain ⟨hR, hn1⟩ := hk1
    have c1 := box_at hn1 (j := 0) rfl
    have f1 := box_free hn1 0
    have hend : RdR 96 w g bv b (if ok then (p, false) else (at_, true)) (w1.setCell ⟨w.heap.size + 3, 0, none⟩ (.int .i64 n)) := by
      have hks : Keep [w.heap.size + 3] w1 (w1.setCell ⟨w.heap.size + 3, 0, none⟩ (.int .i64 n)) := (Keep.refl [w.heap.size + 3] w1).setCell (by simp) _
      exact ⟨hR.1.keep hks (by simp; omega) (Raw.keep Hw.out hR.2 (fun f hf => .inl hf) (fun f hf => .inr (by simp at hf; omega))), (hR.2.trans hks (fun f hf => .inr (by simp at hf; omega)))⟩
    have hd := hm.done
    have Hend := Lib.hid hend
    have Hd := Lib.hid hd
    have Hn1 := Lib.hid (box_at (box_set (u := .int .i64 n) hn1) (j := 0) rfl)
    clear hk hn hm hfin hR hend hd hn1
    go_wp2
    refine bodyPost_ret (results_cell1 rfl _ rfl Tryz.underlying3 rfl Hn1.out) rfl ?_
    rw [Hd.out]
    exact ⟨rfl, Hend.out⟩
  · have hks : Keep [w.heap.size + 3] W (W.setCell ⟨w.heap.size + 3, 0, none⟩ (.int .i64 0)) := (Keep.refl [w.heap.size + 3] W).setCell (by simp) _
    have Hend : Hid (RdR 96 w g bv b (at_, true) (W.setCell ⟨w.heap.size + 3, 0, none⟩ (.int .i64 0))) := Lib.hid ⟨H.out.keep hks (by simp; omega) HB1.out, (Keep.of_below' Hb.out).trans hks (fun f hf => .inr (by simp at hf; omega))⟩
    have c3 : W.cell? ⟨w.heap.size + 1 + 1 + 1, 0, none⟩ = some (.int .i64 0) := box_at h3 (j := 0) rfl
    have f3 : W.frozen? ⟨w.heap.size + 1 + 1 + 1, 0, none⟩ = false := box_free h3 0
    have Hn1 := Lib.hid (box_at (box_set (u := .int .i64 0) h3) (j := 0) rfl)
    clear hks
    have Htry := Lib.hid (fun fn => wtry_failed g bv b at_ fn _ H.out)
    clear h3 hsz
    go_enter Tryz.func24, Tryz.ntmps24
    go_wp2_with fail
    rw [← hW]
    refine (Htry.out _).mono ?_
    rintro e w1 ⟨⟨v, rfl⟩, rfl⟩
    clear hW
    go_wp2
    refine bodyPost_ret (results_cell1 rfl _ rfl Tryz.underlying3 rfl Hn1.out) rfl ?_
    exact ⟨rfl, Hend.out⟩
end Go.Proofs.YthmnhpakgjnngaaGreatDoor
/- The wire's readers: the program's Read and End; the reference's begins -/
namespace Go.Wi
open Go Go.RowKit Go.Bs Go.Cl Go.Rw
def rEnd (b : List UInt8) (s : Nat × Bool) : Int := if s.2 || decide (s.1 < b.length) then 4 else 0
/-- begins -/
def pre (x r : List UInt8) : Bool := decide (r.take x.length = x)
theorem pre_short {x r : List UInt8} (h : r.length < x.length) : pre x r = false := by
  unfold pre
  simp only [decide_eq_false_iff_not]
  intro e
  have := congrArg List.length e
  simp at this; omega
theorem pre_all {x b : List UInt8} {at_ : Nat} (hl : at_ + x.length ≤ b.length) (h : ∀ i (h1 : i < x.length) (h2 : at_ + i < b.length), b[at_ + i] = x[i]) : pre x (b.drop at_) = true := by
  unfold pre
  simp only [decide_eq_true_eq]
  apply List.ext_getElem
  · simp; omega
  · intro i h1 h2
    simp at h1 ⊢
    exact h i h2 (by omega)
theorem pre_diff {x b : List UInt8} {at_ i : Nat} (h1 : i < x.length) (h2 : at_ + i < b.length) (h : ¬ b[at_ + i] = x[i]) : pre x (b.drop at_) = false := by
  unfold pre
  simp only [decide_eq_false_iff_not]
  intro e
  apply h
  have : ((b.drop at_).take x.length)[i]? = x[i]? := by rw [e]
  simp [h1, h2] at this
  exact this
theorem pre_iff {x r : List UInt8} : pre x r = true ↔ ∃ t, r = x ++ t := by
  unfold pre
  simp only [decide_eq_true_eq]
  constructor
  · intro h; exact ⟨r.drop x.length, by conv => lhs; rw [← List.take_append_drop x.length r, h]⟩
  · rintro ⟨t, rfl⟩; simp
end Go.Wi
namespace Go.Proofs.YthmnhpakgjnngaaGreatDoor
open Go.RowKit Go.Bs Go.Cl Go.Rw Go.Wi
set_option maxHeartbeats 1000000 in
theorem wread_any (v : Value) (b : List UInt8) (w : World) (hB : Bytes [] w v b) (hbl : b.length ≤ 1000000) :
    Calls Tryz.prog 21 #[v] w fun e w' => ∃ g rv, e = .returned (.pointer (some ⟨g, 0, none⟩)) ∧ RdAt 96 w' g rv b 0 false ∧ w.heap.size ≤ g ∧ Below w.heap.size w w' := by
  obtain ⟨ba, bc, rfl⟩ := Raw.slice hB
  have hal := (Below.refl w.heap.size w).alloc (Nat.le_refl _) (.cells #[] 5)
  have Hemp := Lib.hid (own_empty w w.heap.size 5 1 (Nat.le_refl _))
  have HB1 := Lib.hid (Raw.below hB hal)
  go_enter Tryz.func21, Tryz.ntmps21
  go_wp2_with (at_builtin; refine wpList_app elB Tryz.underlying28 Hemp.out HB1.out hal rfl _ _ rfl rfl rfl ?c3 ?cB ?c5 ?_)
  case c3 => omega
  case cB => exact Nat.le_refl _
  case c5 => simp
  intro v2 w2 hown2 hb2 hg2 hs2
  have hrow : BRow 5 w2 w.heap.size v2 b := by show w2.ownsRow w.heap.size 5 1 v2 b.length (bytesV b); simpa using hown2
  obtain ⟨a2, c2, rfl⟩ := own_slice hrow
  have hal2 := (Below.refl w2.heap.size w2).alloc (Nat.le_refl _) (.cells #[.slice a2 b.length c2, .int .i64 0, .bool false] 96)
  have hby : Bytes [w2.heap.size] (w2.alloc (.cells #[.slice a2 b.length c2, .int .i64 0, .bool false] 96)) (.slice a2 b.length c2) b :=
    Raw.keep (BRow.bytes (F := []) hrow (fun f hf => by cases hf)) (Keep.of_below' (F := []) hal2) (fun f hf => by cases hf) (fun f hf => by rw [List.mem_singleton.1 hf]; exact .inr (Nat.le_refl _))
  have hrd : RdAt 96 (w2.alloc (.cells #[.slice a2 b.length c2, .int .i64 0, .bool false] 96)) w2.heap.size (.slice a2 b.length c2) b 0 false := ⟨heap_alloc_new w2 _, hby, Nat.zero_le _⟩
  have Hrd := Lib.hid hrd
  have hsz := hb2.size
  have hbel := hb2.trans (hal2.mono hsz)
  have Hbel := Lib.hid hbel
  clear hrow hown2 hg2 hal2 hby hrd hbel
  go_wp2
  go_ret
  exact ⟨w2.heap.size, _, rfl, Hrd.out, hsz, Hbel.out⟩
set_option maxHeartbeats 1000000 in
theorem wend_any (g : Nat) (bv : Value) (b : List UInt8) (at_ : Nat) (fl : Bool) (w : World) (h : RdAt 96 w g bv b at_ fl) (hbl : b.length ≤ 1000000) :
    Calls Tryz.prog 25 #[.pointer (some ⟨g, 0, none⟩)] w fun e w' => e = .returned (.int .i64 (rEnd b (at_, fl))) ∧ Below w.heap.size w w' := by
  obtain ⟨ba, bc, rfl⟩ := Raw.slice h.hb
  have c0 := box_at h.hc (j := 0) rfl
  have c1 := box_at h.hc (j := 1) rfl
  have c2 := box_at h.hc (j := 2) rfl
  have ha := h.ha
  clear h
  have hd := (Below.refl w.heap.size w).drew
  cases fl
  · by_cases hlt : at_ < b.length
    · have hlt' : (at_ : Int) < b.length := by omega
      have He : Hid (rEnd b (at_, false) = 4) := Lib.hid (by simp [rEnd, hlt])
      go_enter Tryz.func25, Tryz.ntmps25
      go_wp2
      refine Txt.wp_txt (by kernel_rfl) (by kernel_rfl) ?_
      go_wp2
      refine Txt.DrawPost.mk0 (by rfl) ?_
      go_wp2
      go_ret
      exact ⟨ret_int He.out.symm, hd⟩
    · have hlt' : (b.length : Int) ≤ at_ := by omega
      have He : Hid (rEnd b (at_, false) = 0) := Lib.hid (by simp [rEnd]; omega)
      go_enter Tryz.func25, Tryz.ntmps25
      go_wp2
      refine Txt.wp_txt (by kernel_rfl) (by kernel_rfl) ?_
      go_wp2
      refine Txt.DrawPost.mk0 (by rfl) ?_
      go_wp2
      go_ret
      exact ⟨ret_int He.out.symm, hd⟩
  · have He : Hid (rEnd b (at_, true) = 4) := Lib.hid (by simp [rEnd])
    go_enter Tryz.func25, Tryz.ntmps25
    go_wp2
    refine Txt.wp_txt (by kernel_rfl) (by kernel_rfl) ?_
    go_wp2
    refine Txt.DrawPost.mk0 (by rfl) ?_
    go_wp2
    go_ret
    exact ⟨ret_int He.out.symm, hd⟩
set_option maxHeartbeats 1000000 in
theorem rbegins_any (g : Nat) (bv xv : Value) (b x : List UInt8) (at_ : Nat) (fl : Bool) (w : World) (h : RdAt 73 w g bv b at_ fl) (hbl : b.length ≤ 1000000) (hX : Bytes [] w xv x) (hxl : x.length ≤ 1000000) :
    Calls Tryz.prog 83 #[.pointer (some ⟨g, 0, none⟩), xv] w fun e w' => e = .returned (.bool (pre x (b.drop at_))) ∧ Below w.heap.size w w' := by
  obtain ⟨ba, bc, rfl⟩ := Raw.slice h.hb
  obtain ⟨xa, xc, rfl⟩ := Raw.slice hX
  have ha := h.ha
  have H := Lib.hid h; clear h
  have HX := Lib.hid hX; clear hX
  have c0 : w.cell? ⟨g, 0, none⟩ = some (.slice ba b.length bc) := box_at H.out.hc rfl
  have c1 : w.cell? ⟨g, 1, none⟩ = some (.int .i64 at_) := box_at H.out.hc rfl
  by_cases hsh : b.length - at_ < x.length
  · have hsh' : (b.length : Int) - at_ < x.length := by omega
    have He := Lib.hid (pre_short (x := x) (r := b.drop at_) (by simp; omega))
    go_enter Tryz.func83, Tryz.ntmps83
    go_wp2
    refine Txt.wp_txt (by kernel_rfl) (by kernel_rfl) ?_
    go_wp2
    refine Txt.DrawPost.mk0 (by rfl) ?_
    go_wp2
    go_ret
    exact ⟨ret_bool He.out.symm, (Below.refl w.heap.size w).drew⟩
  have hsh' : (x.length : Int) ≤ (b.length : Int) - at_ := by omega
  go_enter Tryz.func83, Tryz.ntmps83
  go_wp2
  refine Txt.wp_txt (by kernel_rfl) (by kernel_rfl) ?_
  go_wp2
  refine Txt.DrawPost.mk0 (by rfl) ?_
  go_wp2
  go_loopw [5] (fun i wr => ∃ k : Nat, k ≤ x.length ∧ i = .int .i64 k ∧ (∀ j (h1 : j < x.length) (h2 : at_ + j < b.length), j < k → b[at_ + j] = x[j]) ∧ Below w.heap.size w wr) (fun i _ => x.length - (intOf i).toNat)
  case atStart => exact ⟨0, Nat.zero_le _, rfl, fun j _ _ h => absurd h (Nat.not_lt_zero _), (Below.refl w.heap.size w).drew⟩
  case round =>
    clear c0 c1
    obtain ⟨k, hk, rfl, hall, hbel⟩ := hrel
    have Hall := Lib.hid hall; clear hall
    have hr := H.out.below hbel
    by_cases hlt : k < x.length
    · have c0 : wr.cell? ⟨g, 0, none⟩ = some (.slice ba b.length bc) := box_at hr.hc rfl
      have c1 : wr.cell? ⟨g, 1, none⟩ = some (.int .i64 at_) := box_at hr.hc rfl
      have hab : at_ + k < b.length := by omega
      obtain ⟨q, off, c, hbe, hcb⟩ := hr.byte hab
      have hXr := Raw.below HX.out hbel
      rcases Raw.cases hXr with ⟨h0, _⟩ | ⟨_, q2, off2, c', hxe, _, _, _, _, hcx⟩
      · omega
      have hcx := hcx k (byteV x[k]) (by simp [bytesV, hlt])
      cases hbe; cases hxe
      obtain ⟨y, hy⟩ : ∃ y, b[at_ + k].toNat = y := ⟨_, rfl⟩
      obtain ⟨z, hz⟩ : ∃ z, x[k].toNat = z := ⟨_, rfl⟩
      unfold byteV at hcb hcx
      rw [hy] at hcb
      rw [hz] at hcx
      have hab' : (at_ : Int) + k < b.length := by omega
      have hak : ((at_ + k : Nat) : Int) = (at_ : Int) + k := by omega
      have hlt' : (k : Int) < x.length := by omega
      clear hr hXr
      by_cases heq : y = z
      · have hsame : b[at_ + k] = x[k] := UInt8.toNat_inj.1 (by rw [hy, hz, heq])
        have hall' : ∀ j (h1 : j < x.length) (h2 : at_ + j < b.length), j < k + 1 → b[at_ + j] = x[j] := fun j h1 h2 hj => by
          by_cases e : j = k
          · subst e; exact hsame
          · exact Hall.out j h1 h2 (by omega)
        have Hall' := Lib.hid hall'
        clear hsame hall' hy hz
        subst heq
        go_wp2
        refine Txt.wp_txt (by kernel_rfl) (by kernel_rfl) ?_
        go_wp2
        refine Txt.DrawPost.mk0 (by rfl) ?_
        go_wp2
        go_roundw
        case rel => exact ⟨k + 1, hlt, by go_num, Hall'.out, hbel.drew⟩
        case measure => simp [intOf]; omega
      · have hne : ¬ b[at_ + k] = x[k] := fun e => heq (by rw [← hy, ← hz, e])
        have He := Lib.hid (pre_diff hlt hab hne)
        have hyz : ((y : Int) != z) = true := by simp; omega
        clear hne hy hz
        go_wp2
        refine Txt.wp_txt (by kernel_rfl) (by kernel_rfl) ?_
        go_wp2
        refine Txt.DrawPost.mk0 (by rfl) ?_
        go_wp2
        go_ret
        exact ⟨ret_bool He.out.symm, hbel.drew⟩
    · obtain rfl : k = x.length := by omega
      have He := Lib.hid (pre_all (x := x) (b := b) (at_ := at_) (by omega) (fun i h1 h2 => Hall.out i h1 h2 h1))
      go_wp2
      go_ret
      exact ⟨ret_bool He.out.symm, hbel⟩
end Go.Proofs.YthmnhpakgjnngaaGreatDoor
/- The wire's readers: the reference's peek -/
namespace Go.Wi
open Go Go.RowKit Go.Bs Go.Cl Go.Rw
def M64 : Nat := 18446744073709551616
theorem rdU_cont {b : List UInt8} {p k u : Nat} (hp : p < b.length) (hk : k < 10) (h3 : 128 ≤ b[p].toNat) : rdU (b.drop p) k u = rdU (b.drop (p + 1)) (k + 1) (u + (b[p].toNat % 128) * 128 ^ k) := by
  by_cases h9 : k = 9
  · subst h9
    rw [rdU_bad hp (.inl ⟨rfl, by omega⟩), rdU_ten]
  · exact rdU_more hp hk (fun h => h9 h.1) h3
/-- what peek says of an integer n that it has read from k + 1 bytes: the sum s, modulo 2^64 -/
def okP (b : List UInt8) (at_ k : Nat) (n : Int) : Bool := decide ((encI n).length = k + 1) && pre (encI n) (b.drop at_)
theorem okP_some {b : List UInt8} {at_ k v : Nat} (h : rdU (b.drop at_) 0 0 = some (v, k + 1)) : v < M64 ∧ okP b at_ k (zag v) = true := by
  obtain ⟨_, v', rfl, hv, _, hl, t, ht⟩ := rdU_out _ _ _ _ _ h
  simp only [Nat.zero_add, Nat.pow_zero, Nat.mul_one] at hl ⊢
  refine ⟨by simpa [M64] using hv, ?_⟩
  unfold okP
  rw [Bool.and_eq_true]
  refine ⟨by simp [encI, zig_zag]; omega, ?_⟩
  rw [pre_iff, encI, zig_zag]
  exact ⟨t, ht⟩
theorem okP_none {b : List UInt8} {at_ k : Nat} {n : Int} (h : rdU (b.drop at_) 0 0 = none) (hn : fits n) : okP b at_ k n = false := by
  unfold okP
  rw [Bool.and_eq_false_iff]
  refine .inr ?_
  cases hp : pre (encI n) (b.drop at_) with
  | false => rfl
  | true =>
    obtain ⟨t, ht⟩ := pre_iff.1 hp
    rw [ht, encI, rdU_groups _ 0 0 t (by omega) (zig_lt hn) (.inl rfl)] at h
    cases h
/-- how peek makes the number out of the sum -/
theorem peek_even {U : Nat} (h : U % 2 = 0) (hU : U < 18446744073709551616) : (U : Int).tmod 2 = 0 ∧ ∃ m : Int, IntKind.u64.wrap ((U : Int) / 2) = m ∧ wrap64 m = zag U := by
  refine ⟨?_, _, rfl, ?_⟩
  · have : (U : Int).tmod 2 = ((U % 2 : Nat) : Int) := rfl
    omega
  · have e : IntKind.u64.wrap ((U : Int) / 2) = (U : Int) / 2 := by rw [IntKind.wrap_u64]; omega
    rw [e]; exact zag_even h hU
theorem peek_odd {U : Nat} (h : U % 2 = 1) (hU : U < 18446744073709551616) : (U : Int).tmod 2 = 1 ∧ ∃ m m2 m3 : Int, IntKind.u64.wrap ((U : Int) / 2) = m ∧ wrap64 m = m2 ∧ wrap64 (-m2) = m3 ∧ wrap64 (m3 - 1) = zag U := by
  refine ⟨?_, _, _, _, rfl, rfl, rfl, ?_⟩
  · have : (U : Int).tmod 2 = ((U % 2 : Nat) : Int) := rfl
    omega
  · have e : IntKind.u64.wrap ((U : Int) / 2) = ((U / 2 : Nat) : Int) := by rw [IntKind.wrap_u64]; omega
    rw [e, ← zag_odd h]
    have e2 : wrap64 ((U / 2 : Nat) : Int) = ((U / 2 : Nat) : Int) := by rw [wrap64]; omega
    rw [e2]
    have e3 : wrap64 (-((U / 2 : Nat) : Int)) = -((U / 2 : Nat) : Int) := by rw [wrap64]; omega
    rw [e3, wrap64]
    omega
/-- what peek returns -/
def IsP (b : List UInt8) (at_ : Nat) (n : Int) (ok : Bool) : Prop := match rdI b at_ with | some (x, _) => n = x ∧ ok = true | none => ok = false
/-- the last step -/
theorem IsP.last {b : List UInt8} {at_ k s : Nat} (hab : at_ + k < b.length) (hk : k < 10) (hrd : rdU (b.drop at_) 0 0 = rdU (b.drop (at_ + k)) k s) (hx : b[at_ + k].toNat < 128) :
    IsP b at_ (zag ((s + b[at_ + k].toNat * 128 ^ k) % M64)) (okP b at_ k (zag ((s + b[at_ + k].toNat * 128 ^ k) % M64))) := by
  by_cases hbad : (k = 9 ∧ 1 < b[at_ + k].toNat) ∨ (0 < k ∧ b[at_ + k].toNat = 0)
  · rw [rdU_bad hab hbad] at hrd
    have hn : fits (zag ((s + b[at_ + k].toNat * 128 ^ k) % M64)) := zag_fits (by unfold M64; exact Nat.mod_lt _ (by decide))
    unfold IsP
    rw [okP_none hrd hn]
    unfold rdI
    rw [hrd]
    trivial
  · rw [rdU_last hab hk (fun h => hbad (.inl h)) (fun h => hbad (.inr h)) hx] at hrd
    obtain ⟨h1, h2⟩ := okP_some hrd
    rw [Nat.mod_eq_of_lt h1, h2]
    unfold IsP rdI
    rw [hrd]
    exact ⟨rfl, rfl⟩
theorem mod_step {s x P : Nat} : (s % M64 + x * (P % M64)) % M64 = (s + x * P) % M64 := by
  rw [Nat.add_mod, Nat.mod_mod, Nat.mul_mod, Nat.mod_mod, ← Nat.mul_mod, ← Nat.add_mod]
end Go.Wi
namespace Go.Proofs.YthmnhpakgjnngaaGreatDoor
open Go.RowKit Go.Bs Go.Cl Go.Rw Go.Wi
set_option maxRecDepth 100000 in
set_option maxHeartbeats 4000000 in
theorem rpeek_any (g : Nat) (bv : Value) (b : List UInt8) (at_ : Nat) (fl : Bool) (w : World) (h : RdAt 73 w g bv b at_ fl) (hbl : b.length ≤ 1000000) :
    Calls Tryz.prog 62 #[.pointer (some ⟨g, 0, none⟩)] w fun e w' => ∃ n ok, e = .returned (.tuple #[.int .i64 n, .bool ok]) ∧ IsP b at_ n ok ∧ Below w.heap.size w w' := by
  obtain ⟨ba, bc, rfl⟩ := Raw.slice h.hb
  have ha := h.ha
  have H := Lib.hid h; clear h
  go_enter Tryz.func62, Tryz.ntmps62
  go_wp2
  go_loopw [4, 5, 6] (fun uv pv kv wr => ∃ (k s : Nat), kv = .int .i64 k ∧ uv = .int .u64 ((s % M64 : Nat) : Int) ∧ pv = .int .u64 ((128 ^ k % M64 : Nat) : Int) ∧ k ≤ 10 ∧ at_ + k ≤ b.length ∧ Below w.heap.size w wr ∧ rdU (b.drop at_) 0 0 = rdU (b.drop (at_ + k)) k s) (fun _ _ kv _ => 10 - (intOf kv).toNat)
  case atStart => exact ⟨0, 0, rfl, rfl, rfl, by omega, by omega, Below.refl _ _, rfl⟩
  case round =>
    obtain ⟨k, s, rfl, rfl, rfl, hk, hal, hbel, hrd⟩ := hrel
    have hr := H.out.below hbel
    have Hrd := Lib.hid hrd; clear hrd
    obtain ⟨U, hU⟩ : ∃ U, s % M64 = U := ⟨_, rfl⟩
    obtain ⟨Pl, hPl⟩ : ∃ P, 128 ^ k % M64 = P := ⟨_, rfl⟩
    rw [hU, hPl]
    have HU := Lib.hid hU; have HPl := Lib.hid hPl
    clear hU hPl
    have c0 : wr.cell? ⟨g, 0, none⟩ = some (.slice ba b.length bc) := box_at hr.hc rfl
    have c1 : wr.cell? ⟨g, 1, none⟩ = some (.int .i64 at_) := box_at hr.hc rfl
    have hsum : ((at_ + k : Nat) : Int) = (at_ : Int) + k := by omega
    by_cases hin : k < 10 ∧ at_ + k < b.length
    · obtain ⟨hk10, hab⟩ := hin
      obtain ⟨q, off, c, hbe, hcell⟩ := hr.byte hab
      cases hbe
      obtain ⟨x, hx⟩ : ∃ x, b[at_ + k].toNat = x := ⟨_, rfl⟩
      have hx256 : x < 256 := by rw [← hx]; exact UInt8.toNat_lt _
      unfold byteV at hcell
      rw [hx] at hcell
      have hk10' : (k : Int) < 10 := by omega
      have hab' : (at_ : Int) + k < b.length := by omega
      have hx0 : 0 ≤ (x : Int) := by omega
      have hx1 : (x : Int) < 256 := by omega
      have Hx := Lib.hid hx; clear hx
      have Hr := Lib.hid hr; clear hr
      obtain ⟨U', hU'⟩ : ∃ U', (s + x % 128 * 128 ^ k) % M64 = U' := ⟨_, rfl⟩
      obtain ⟨Pl', hPl'⟩ : ∃ P, 128 ^ (k + 1) % M64 = P := ⟨_, rfl⟩
      have e1 : IntKind.u64.wrap ((U : Int) + IntKind.u64.wrap ((x : Int) % 128 * Pl)) = (U' : Int) := by
        rw [← hU', ← mod_step, HU.out, HPl.out, IntKind.wrap_u64, IntKind.wrap_u64]
        unfold M64
        have : (x : Int) % 128 * Pl = ((x % 128 * Pl : Nat) : Int) := by simp
        rw [this]
        omega
      have e2 : IntKind.u64.wrap ((Pl : Int) * 128) = (Pl' : Int) := by
        rw [← hPl', Nat.pow_succ, Nat.mul_mod, HPl.out, IntKind.wrap_u64]
        unfold M64
        omega
      have E1 := Lib.hid e1; have E2 := Lib.hid e2
      have HU' := Lib.hid hU'; have HPl' := Lib.hid hPl'
      clear e1 e2 hU' hPl'
      by_cases hlast : x < 128
      · have hlast' : (x : Int) < 128 := by omega
        have hfin := IsP.last hab hk10 Hrd.out (by rw [Hx.out]; exact hlast)
        rw [Hx.out, show x * 128 ^ k = x % 128 * 128 ^ k by rw [Nat.mod_eq_of_lt hlast], HU'.out] at hfin
        have Hfin := Lib.hid hfin
        have hU64 : U' < 18446744073709551616 := by rw [← HU'.out]; exact Nat.mod_lt _ (by decide)
        have hnf : Wi.fits (zag U') := zag_fits hU64
        have Hnf := Lib.hid hnf
        clear hfin hnf
        have e1 := E1.out
        have e2 := E2.out
        obtain ⟨n, hn⟩ : ∃ n, zag U' = n := ⟨_, rfl⟩
        rcases Nat.mod_two_eq_zero_or_one U' with hpar | hpar
        · obtain ⟨r1, m, r2, r3⟩ := peek_even hpar hU64
          rw [hn] at Hfin Hnf r3
          clear hpar hU64 hn
          go_wp2
          refine Txt.wp_txt (by kernel_rfl) (by kernel_rfl) ?_
          go_wp2
          refine Txt.DrawPost.mk0 (by rfl) ?_
          go_wp2
          refine Txt.wp_txt (by kernel_rfl) (by kernel_rfl) ?_
          go_wp2
          refine Txt.DrawPost.mk0 (by rfl) ?_
          go_wp2_with fail
          have hbel1 := hbel.drew.drew
          refine (rint_any n _ Hnf.out).mono ?_
          rintro e w1 ⟨v1, rfl, hr1, hb1⟩
          obtain ⟨a1, c1', rfl⟩ := own_slice hr1
          have hbelB := hbel1.trans (hb1.mono hbel1.size)
          have hnl := encI_len Hnf.out
          have Hnl := Lib.hid hnl
          obtain ⟨L, hL⟩ : ∃ L, (encI n).length = L := ⟨_, rfl⟩
          rw [hL]
          have HL := Lib.hid hL
          clear hr1 hb1 hL hnl
          by_cases hlen : L = k + 1
          · subst hlen
            have Hfin2 : Hid (IsP b at_ n (pre (encI n) (b.drop at_))) := Lib.hid (by have := Hfin.out; unfold okP at this; rw [HL.out] at this; simpa using this)
            go_wp2_with fail
            refine (rint_any n _ Hnf.out).mono ?_
            rintro e w2 ⟨v2, rfl, hr2, hb2⟩
            have hbelC := hbelB.trans (hb2.mono hbelB.size)
            have HX := Lib.hid (BRow.bytes (F := []) hr2 (fun f hf => by cases hf))
            obtain ⟨a2, c2', rfl⟩ := own_slice hr2
            clear hr2 hb2
            go_wp2_with fail
            refine (rbegins_any g _ _ b (encI n) at_ fl _ (H.out.below hbelC) hbl HX.out (by have := Hnl.out; omega)).mono ?_
            rintro e w3 ⟨rfl, hb3⟩
            have hbelD := hbelC.trans (hb3.mono hbelC.size)
            clear hb3
            go_wp2
            go_ret2
            exact ⟨n, _, rfl, Hfin2.out, hbelD⟩
          · have hne : ((L : Int) == (k : Int) + 1) = false := by simp; omega
            have Hfin2 : Hid (IsP b at_ n false) := Lib.hid (by have := Hfin.out; unfold okP at this; rw [HL.out] at this; simpa [hlen] using this)
            go_wp2
            go_ret2
            exact ⟨n, false, rfl, Hfin2.out, hbelB⟩
        · obtain ⟨r1, m, m2, m3, r2, r3, r4, r5⟩ := peek_odd hpar hU64
          rw [hn] at Hfin Hnf r5
          clear hpar hU64 hn
          go_wp2
          refine Txt.wp_txt (by kernel_rfl) (by kernel_rfl) ?_
          go_wp2
          refine Txt.DrawPost.mk0 (by rfl) ?_
          go_wp2
          refine Txt.wp_txt (by kernel_rfl) (by kernel_rfl) ?_
          go_wp2
          refine Txt.DrawPost.mk0 (by rfl) ?_
          go_wp2_with fail
          have hbel1 := hbel.drew.drew
          refine (rint_any n _ Hnf.out).mono ?_
          rintro e w1 ⟨v1, rfl, hr1, hb1⟩
          obtain ⟨a1, c1', rfl⟩ := own_slice hr1
          have hbelB := hbel1.trans (hb1.mono hbel1.size)
          have hnl := encI_len Hnf.out
          have Hnl := Lib.hid hnl
          obtain ⟨L, hL⟩ : ∃ L, (encI n).length = L := ⟨_, rfl⟩
          rw [hL]
          have HL := Lib.hid hL
          clear hr1 hb1 hL hnl
          by_cases hlen : L = k + 1
          · subst hlen
            have Hfin2 : Hid (IsP b at_ n (pre (encI n) (b.drop at_))) := Lib.hid (by have := Hfin.out; unfold okP at this; rw [HL.out] at this; simpa using this)
            go_wp2_with fail
            refine (rint_any n _ Hnf.out).mono ?_
            rintro e w2 ⟨v2, rfl, hr2, hb2⟩
            have hbelC := hbelB.trans (hb2.mono hbelB.size)
            have HX := Lib.hid (BRow.bytes (F := []) hr2 (fun f hf => by cases hf))
            obtain ⟨a2, c2', rfl⟩ := own_slice hr2
            clear hr2 hb2
            go_wp2_with fail
            refine (rbegins_any g _ _ b (encI n) at_ fl _ (H.out.below hbelC) hbl HX.out (by have := Hnl.out; omega)).mono ?_
            rintro e w3 ⟨rfl, hb3⟩
            have hbelD := hbelC.trans (hb3.mono hbelC.size)
            clear hb3
            go_wp2
            go_ret2
            exact ⟨n, _, rfl, Hfin2.out, hbelD⟩
          · have hne : ((L : Int) == (k : Int) + 1) = false := by simp; omega
            have Hfin2 : Hid (IsP b at_ n false) := Lib.hid (by have := Hfin.out; unfold okP at this; rw [HL.out] at this; simpa [hlen] using this)
            go_wp2
            go_ret2
            exact ⟨n, false, rfl, Hfin2.out, hbelB⟩
      · have hlast' : 128 ≤ (x : Int) := by omega
        have hcont := rdU_cont (u := s) hab hk10 (by rw [Hx.out]; omega)
        rw [Hx.out] at hcont
        have Hc := Lib.hid hcont; clear hcont
        go_wp2
        refine Txt.wp_txt (by kernel_rfl) (by kernel_rfl) ?_
        go_wp2
        refine Txt.DrawPost.mk0 (by rfl) ?_
        go_wp2
        refine Txt.wp_txt (by kernel_rfl) (by kernel_rfl) ?_
        go_wp2
        refine Txt.DrawPost.mk0 (by rfl) ?_
        go_wp2
        go_roundw
        case rel => exact ⟨k + 1, s + x % 128 * 128 ^ k, by go_num, by rw [E1.out, HU'.out], by rw [E2.out, HPl'.out], by omega, by omega, hbel.drew.drew, Hrd.out.trans Hc.out⟩
        case measure => simp [intOf]; omega
    · have hnone : rdU (b.drop (at_ + k)) k s = none := by
        by_cases hk10 : k = 10
        · subst hk10; exact rdU_ten
        · exact rdU_nil (by omega)
      have Hnone := Lib.hid (show IsP b at_ 0 false by unfold IsP rdI; rw [Hrd.out, hnone]; rfl)
      clear hnone hr
      have hcase : k = 10 ∨ (k < 10 ∧ b.length = at_ + k) := by omega
      rcases hcase with rfl | ⟨hk10, hbe⟩
      · go_wp2
        refine Txt.wp_txt (by kernel_rfl) (by kernel_rfl) ?_
        go_wp2
        refine Txt.DrawPost.mk0 (by rfl) ?_
        go_wp2
        go_ret2
        exact ⟨0, false, rfl, Hnone.out, hbel.drew⟩
      · have hk10' : (k : Int) < 10 := by omega
        have hbe' : (b.length : Int) ≤ (at_ : Int) + k := by omega
        go_wp2
        refine Txt.wp_txt (by kernel_rfl) (by kernel_rfl) ?_
        go_wp2
        refine Txt.DrawPost.mk0 (by rfl) ?_
        go_wp2
        go_ret2
        exact ⟨0, false, rfl, Hnone.out, hbel.drew⟩
end Go.Proofs.YthmnhpakgjnngaaGreatDoor
/- The wire's readers: the reference's Int, Bounded, End -/
namespace Go.Wi
open Go Go.RowKit Go.Bs Go.Cl Go.Rw
variable {T : TypeId} {w w' : World} {g at_ : Nat} {bv : Value} {b : List UInt8} {fl : Bool}
theorem rI_failed (b : List UInt8) (at_ : Nat) : rI b (at_, true) = (0, at_, true) := rfl
theorem rB_failed (b : List UInt8) (lo hi : Int) (at_ : Nat) : rB b lo hi (at_, true) = (0, at_, true) := rfl
theorem rI_none {b : List UInt8} {at_ : Nat} (h : rdI b at_ = none) : rI b (at_, false) = (0, at_, true) := by unfold rI; simp [h]
theorem rI_some {b : List UInt8} {at_ m : Nat} {x : Int} (h : rdI b at_ = some (x, m)) : rI b (at_, false) = (x, at_ + m, false) := by unfold rI; simp [h]
theorem rB_none {b : List UInt8} {at_ : Nat} {lo hi : Int} (h : rdI b at_ = none) : rB b lo hi (at_, false) = (0, at_, true) := by unfold rB rdB; simp [h]
theorem rB_out {b : List UInt8} {at_ m : Nat} {lo hi x : Int} (h : rdI b at_ = some (x, m)) (hx : ¬ (lo ≤ x ∧ x ≤ hi)) : rB b lo hi (at_, false) = (0, at_, true) := by unfold rB rdB; simp [h, hx]
theorem rB_in {b : List UInt8} {at_ m : Nat} {lo hi x : Int} (h : rdI b at_ = some (x, m)) (hx : lo ≤ x ∧ x ≤ hi) : rB b lo hi (at_, false) = (x, at_ + m, false) := by unfold rB rdB; simp [h, hx]
end Go.Wi
namespace Go.Proofs.YthmnhpakgjnngaaGreatDoor
open Go.RowKit Go.Bs Go.Cl Go.Rw Go.Wi
set_option maxRecDepth 100000 in
set_option maxHeartbeats 1000000 in
theorem rInt_any (g : Nat) (bv : Value) (b : List UInt8) (at_ : Nat) (fl : Bool) (w : World) (h : RdAt 73 w g bv b at_ fl) (hbl : b.length ≤ 1000000) :
    Calls Tryz.prog 27 #[.pointer (some ⟨g, 0, none⟩)] w fun e w' => e = .returned (.int .i64 (rI b (at_, fl)).1) ∧ RdR 73 w g bv b (rI b (at_, fl)).2 w' := by
  have H := Lib.hid h; clear h
  go_enter Tryz.func27, Tryz.ntmps27
  go_wp2_with fail
  refine (rpeek_any g bv b at_ fl _ H.out hbl).mono ?_
  rintro e w1 ⟨n, ok, rfl, hp, hb1⟩
  have h1 := H.out.below hb1
  have hg := H.out.lt
  have c1 : w1.cell? ⟨g, 1, none⟩ = some (.int .i64 at_) := box_at h1.hc rfl
  have f1 := box_free h1.hc 1
  have c2 : w1.cell? ⟨g, 2, none⟩ = some (.bool fl) := box_at h1.hc rfl
  have f2 := box_free h1.hc 2
  have hf := h1.fail true
  have Hf := Lib.hid (show RdR 73 w g bv b (at_, true) (w1.setCell ⟨g, 2, none⟩ (.bool true)) from ⟨hf.1, (Keep.of_below' (F := [g]) hb1).trans hf.2 (fun f hf => .inl hf)⟩)
  clear hf
  have H1 := Lib.hid h1; clear h1
  have Hb1 := Lib.hid hb1; clear hb1
  cases fl
  · unfold IsP at hp
    cases hd : rdI b at_ with
    | none =>
      rw [hd] at hp
      subst hp
      have Hq := Lib.hid (rI_none hd)
      clear hd
      go_wp2
      go_ret
      rw [Hq.out]
      exact ⟨rfl, Hf.out⟩
    | some q =>
      obtain ⟨x, m⟩ := q
      rw [hd] at hp
      obtain ⟨rfl, rfl⟩ := hp
      have Hq := Lib.hid (rI_some hd)
      obtain ⟨hfit, hm, _⟩ := rdI_out hd
      have hle := (rdI_le hd).1
      have Hfit := Lib.hid hfit; have Hm := Lib.hid hm; have Hle := Lib.hid hle
      clear hd hfit hm hle
      have hS : ∀ b ∈ [g], ∃ c e f, w1.heap[b]? = some (.cells c e f) := fun b hb => by rw [List.mem_singleton.1 hb]; exact ⟨_, _, _, H1.out.hc⟩
      have HS := Lib.hid (same_start hS)
      go_wp2
      refine Txt.wp_cut [6] [g] [3] [10] (by kernel_rfl) (by kernel_rfl) (by kernel_rfl) hS ?_
      clear hS
      simp only [Txt.wpCut, List.take_succ_cons, List.take_zero, List.drop_succ_cons, List.drop_zero]
      go_wp2_with fail
      refine (rint_any n _ Hfit.out).mono ?_
      rintro e w2 ⟨v2, rfl, hr2, hb2⟩
      have HS2 := Lib.hid (same_below' HS.out hb2)
      have hb2 : Below w1.heap.size w1 w2 := (Below.refl _ w1).drew.trans hb2
      have h2 := H1.out.below hb2
      obtain ⟨a2, c2', rfl⟩ := own_slice hr2
      rw [← Hm.out]
      have hpos := h2.pos (p := at_ + m) (x := (at_ : Int) + m) Hle.out (by omega)
      have Hend := Lib.hid (show RdR 73 w g bv b (at_ + m, false) (w2.setCell ⟨g, 1, none⟩ (.int .i64 ((at_ : Int) + m))) from ⟨hpos.1, ((Keep.of_below' (F := [g]) Hb1.out).trans (Keep.of_below' (F := [g]) hb2) (fun f hf => .inl hf)).trans hpos.2 (fun f hf => .inl hf)⟩)
      have c1 : w2.cell? ⟨g, 1, none⟩ = some (.int .i64 at_) := box_at h2.hc rfl
      have f1 := box_free h2.hc 1
      have hle2 : ((at_ + m : Nat) : Int) ≤ b.length := by have := Hle.out; omega
      have hle3 : (at_ : Int) + m ≤ b.length := by have := Hle.out; omega
      clear hr2 hb2 hpos h2
      go_wp2
      refine Txt.SegPost.mk HS2.out ?_
      go_wp2
      refine Txt.DrawPost.mk (by rfl) ⟨.head _, trivial⟩ ?_
      go_wp2
      go_ret
      rw [Hq.out]
      exact ⟨rfl, Hend.out⟩
  · clear hp
    go_wp2
    go_ret
    rw [rI_failed]
    refine ⟨rfl, ?_⟩
    first | exact Hf.out | exact ⟨H1.out, Keep.of_below' Hb1.out⟩
set_option maxRecDepth 100000 in
set_option maxHeartbeats 1000000 in
theorem rBounded_any (g : Nat) (bv : Value) (b : List UInt8) (at_ : Nat) (fl : Bool) (lo hi : Int) (w : World) (h : RdAt 73 w g bv b at_ fl) (hbl : b.length ≤ 1000000) :
    Calls Tryz.prog 29 #[.pointer (some ⟨g, 0, none⟩), .int .i64 lo, .int .i64 hi] w fun e w' => e = .returned (.int .i64 (rB b lo hi (at_, fl)).1) ∧ RdR 73 w g bv b (rB b lo hi (at_, fl)).2 w' := by
  have H := Lib.hid h; clear h
  go_enter Tryz.func29, Tryz.ntmps29
  go_wp2_with fail
  refine (rpeek_any g bv b at_ fl _ H.out hbl).mono ?_
  rintro e w1 ⟨n, ok, rfl, hp, hb1⟩
  have h1 := H.out.below hb1
  have c2 : w1.cell? ⟨g, 2, none⟩ = some (.bool fl) := box_at h1.hc rfl
  have f2 := box_free h1.hc 2
  have hf := h1.fail true
  have Hf := Lib.hid (show RdR 73 w g bv b (at_, true) (w1.setCell ⟨g, 2, none⟩ (.bool true)) from ⟨hf.1, (Keep.of_below' (F := [g]) hb1).trans hf.2 (fun f hf => .inl hf)⟩)
  have H1 := Lib.hid (show RdR 73 w g bv b (at_, fl) w1 from ⟨h1, Keep.of_below' (F := [g]) hb1⟩)
  clear hf h1 hb1
  have go : ∀ (s : Nat × Bool) (wf : World), RdR 73 w g bv b s wf → Calls Tryz.prog 27 #[.pointer (some ⟨g, 0, none⟩)] wf fun e w' => e = .returned (.int .i64 (rI b s).1) ∧ RdR 73 w g bv b (rI b s).2 w' := fun s wf hs => by
    obtain ⟨p, f⟩ := s
    refine (rInt_any g bv b p f wf hs.1 hbl).mono ?_
    rintro e w' ⟨rfl, h1, h2⟩
    exact ⟨rfl, h1, hs.2.trans h2 (fun f hf => .inl hf)⟩
  have Go := Lib.hid go; clear go
  unfold IsP at hp
  have fin : ∀ (s : Nat × Bool) (wf : World), RdR 73 w g bv b s wf → rI b s = rB b lo hi (at_, fl) → Calls Tryz.prog 27 #[.pointer (some ⟨g, 0, none⟩)] wf fun e w' => e = .returned (.int .i64 (rB b lo hi (at_, fl)).1) ∧ RdR 73 w g bv b (rB b lo hi (at_, fl)).2 w' := fun s wf h1 h2 => by rw [← h2]; exact Go.out s wf h1
  have Fin := Lib.hid fin; clear fin Go
  cases hd : rdI b at_ with
  | none =>
    rw [hd] at hp
    subst hp
    have hr : rI b (at_, true) = rB b lo hi (at_, fl) := by cases fl <;> simp [rI_failed, rB_failed, rB_none hd]
    have Hr := Lib.hid hr; clear hr hd
    cases fl
    · go_wp2_with fail
      refine (Fin.out _ _ Hf.out Hr.out).mono ?_
      rintro e w2 ⟨rfl, h2⟩
      have H2 := Lib.hid h2; clear h2
      go_wp2
      go_ret
      exact ⟨rfl, H2.out⟩
    · go_wp2_with fail
      refine (Fin.out (at_, true) _ (by first | exact Hf.out | exact H1.out) Hr.out).mono ?_
      rintro e w2 ⟨rfl, h2⟩
      have H2 := Lib.hid h2; clear h2
      go_wp2
      go_ret
      exact ⟨rfl, H2.out⟩
  | some q =>
    obtain ⟨x, m⟩ := q
    rw [hd] at hp
    obtain ⟨rfl, rfl⟩ := hp
    by_cases hx : lo ≤ n ∧ n ≤ hi
    · have hr : rI b (at_, fl) = rB b lo hi (at_, fl) := by
        cases fl
        · rw [rI_some hd, rB_in hd hx]
        · rfl
      have Hr := Lib.hid hr; clear hr hd
      obtain ⟨hx1, hx2⟩ := hx
      go_wp2_with fail
      refine (Fin.out _ _ H1.out Hr.out).mono ?_
      rintro e w2 ⟨rfl, h2⟩
      have H2 := Lib.hid h2; clear h2
      go_wp2
      go_ret
      exact ⟨rfl, H2.out⟩
    · have hr : rI b (at_, true) = rB b lo hi (at_, fl) := by
        cases fl
        · rw [rI_failed, rB_out hd hx]
        · rfl
      have Hr := Lib.hid hr; clear hr hd
      have hx' : n < lo ∨ (lo ≤ n ∧ hi < n) := by omega
      clear hx
      rcases hx' with hx1 | ⟨hx1, hx2⟩
      all_goals
        cases fl
        · go_wp2_with fail
          refine (Fin.out _ _ Hf.out Hr.out).mono ?_
          rintro e w2 ⟨rfl, h2⟩
          have H2 := Lib.hid h2; clear h2
          go_wp2
          go_ret
          exact ⟨rfl, H2.out⟩
        · go_wp2_with fail
          refine (Fin.out (at_, true) _ (by first | exact Hf.out | exact H1.out) Hr.out).mono ?_
          rintro e w2 ⟨rfl, h2⟩
          have H2 := Lib.hid h2; clear h2
          go_wp2
          go_ret
          exact ⟨rfl, H2.out⟩
set_option maxHeartbeats 1000000 in
theorem rend_any (g : Nat) (bv : Value) (b : List UInt8) (at_ : Nat) (fl : Bool) (w : World) (h : RdAt 73 w g bv b at_ fl) (hbl : b.length ≤ 1000000) :
    Calls Tryz.prog 30 #[.pointer (some ⟨g, 0, none⟩)] w fun e w' => e = .returned (.int .i64 (rEnd b (at_, fl))) ∧ Below w.heap.size w w' := by
  obtain ⟨ba, bc, rfl⟩ := Raw.slice h.hb
  have c0 := box_at h.hc (j := 0) rfl
  have c1 := box_at h.hc (j := 1) rfl
  have c2 := box_at h.hc (j := 2) rfl
  have ha := h.ha
  clear h
  have hd := (Below.refl w.heap.size w).drew
  cases fl
  · by_cases hlt : at_ < b.length
    · have hlt' : ((at_ : Int) != b.length) = true := by simp; omega
      have He : Hid (rEnd b (at_, false) = 4) := Lib.hid (by simp [rEnd, hlt])
      go_enter Tryz.func30, Tryz.ntmps30
      go_wp2
      refine Txt.wp_txt (by kernel_rfl) (by kernel_rfl) ?_
      go_wp2
      refine Txt.DrawPost.mk0 (by rfl) ?_
      go_wp2
      go_ret
      exact ⟨ret_int He.out.symm, hd⟩
    · obtain rfl : at_ = b.length := by omega
      have He : Hid (rEnd b (b.length, false) = 0) := Lib.hid (by simp [rEnd])
      go_enter Tryz.func30, Tryz.ntmps30
      go_wp2
      refine Txt.wp_txt (by kernel_rfl) (by kernel_rfl) ?_
      go_wp2
      refine Txt.DrawPost.mk0 (by rfl) ?_
      go_wp2
      go_ret
      exact ⟨ret_int He.out.symm, hd⟩
  · have He : Hid (rEnd b (at_, true) = 4) := Lib.hid (by simp [rEnd])
    go_enter Tryz.func30, Tryz.ntmps30
    go_wp2
    refine Txt.wp_txt (by kernel_rfl) (by kernel_rfl) ?_
    go_wp2
    refine Txt.DrawPost.mk0 (by rfl) ?_
    go_wp2
    go_ret
    exact ⟨ret_int He.out.symm, hd⟩
end Go.Proofs.YthmnhpakgjnngaaGreatDoor
/- A reader beside a row that grows. No program in sight. -/
namespace Go.Wi
open Go Go.RowKit Go.Bs Go.Cl Go.Rw
variable {α : Type} {enc : α → List Value} {k : Nat} {T e : TypeId} {w w' : World} {base g : Nat} {rv ov : Value} {b : List UInt8} {s : Nat × Bool} {l : List α}
structure RdO (enc : α → List Value) (k : Nat) (T e : TypeId) (w : World) (base g : Nat) (rv : Value) (b : List UInt8) (s : Nat × Bool) (ov : Value) (l : List α) : Prop where
  rd : RdAt T w g rv b s.1 s.2
  row : w.ownsRow base e k ov l.length (l.flatMap enc)
  off : ∀ f ∈ ov.ownBlock.toList, f ≠ g
  by' : Bytes ov.ownBlock.toList w rv b
theorem RdO.start (h : RdAt T w g rv b s.1 s.2) : RdO enc k T e w base g rv b s (.slice none 0 0) [] :=
  ⟨h, World.ownsRow_nil _ _ _ _, fun f hf => by simp [Value.ownBlock] at hf, Raw.to_nil h.hb⟩
theorem RdO.below (h : RdO enc k T e w base g rv b s ov l) (hb : Below w.heap.size w w') : RdO enc k T e w' base g rv b s ov l :=
  ⟨h.rd.below hb, own_below h.row hb (Nat.le_refl _), h.off, Raw.below h.by' hb⟩
theorem RdO.read {s' : Nat × Bool} (h : RdO enc k T e w base g rv b s ov l) (hr : RdR T w g rv b s' w') : RdO enc k T e w' base g rv b s' ov l :=
  ⟨hr.1, own_keep h.row hr.2 (fun r hr hm => h.off r (by simp [hr]) (List.mem_singleton.1 hm)), h.off, Raw.keep (Raw.both h.by' h.rd.hb) hr.2 (fun f hf => .inl (List.mem_append_right _ hf)) (fun f hf => .inl (List.mem_append_left _ hf))⟩
theorem RdO.push {ov' : Value} {x : α} (h : RdO enc k T e w base g rv b s ov l) (hrow : w'.ownsRow base e k ov' (l.length + 1) (l.flatMap enc ++ enc x)) (hk : Keep ov.ownBlock.toList w w') (hn : ∀ f ∈ ov'.ownBlock.toList, f ∈ ov.ownBlock.toList ∨ w.heap.size ≤ f) :
    RdO enc k T e w' base g rv b s ov' (l ++ [x]) :=
  ⟨h.rd.keep hk (fun hm => h.off g hm rfl) h.by', by simpa using hrow, fun f hf => by
    rcases hn f hf with h1 | h1
    · exact h.off f h1
    · have := h.rd.lt; omega, Raw.keep h.by' hk (fun f hf => .inl hf) hn⟩
/-- what lies below the reader and the row is as it was -/
theorem RdO.low {B : Nat} {W : World} {ov' : Value} (h : RdO enc k T e w base g rv b s ov l) (hk : Keep ov.ownBlock.toList w w') (hB : B ≤ base) (hbw : base ≤ w.heap.size) (hb : Below B W w) : Below B W w' :=
  hb.trans (hk.below (by omega) (fun f hf => by have := (h.row.lt f (by simpa using hf)).1; omega))
theorem RdR.low {B : Nat} {W : World} (hr : RdR T w g rv b s w') (hB : B ≤ g) (hBw : B ≤ w.heap.size) (hb : Below B W w) : Below B W w' :=
  hb.trans (hr.2.below hBw (fun f hf => by rw [List.mem_singleton.1 hf]; exact hB))
theorem rB_bound (b : List UInt8) {lo hi : Int} (h0 : lo ≤ 0) (h1 : 0 ≤ hi) (s : Nat × Bool) : lo ≤ (rB b lo hi s).1 ∧ (rB b lo hi s).1 ≤ hi := by
  unfold rB
  split
  · exact ⟨h0, h1⟩
  · cases h : rdB b s.1 lo hi with
    | none => exact ⟨h0, h1⟩
    | some q => obtain ⟨x, m⟩ := q; exact (rdB_some h).2
/-- reading what was written -/
theorem rI_enc {n : Int} (h : fits n) {b p t : List UInt8} (hb : b = p ++ (encI n ++ t)) : rI b (p.length, false) = (n, (p ++ encI n).length, false) := by
  have : rdI b p.length = some (n, (encI n).length) := rdI_enc h (t := t) (by rw [hb]; simp)
  rw [rI_some this]; simp
theorem rB_enc {n lo hi : Int} (h : fits n) (h1 : lo ≤ n ∧ n ≤ hi) {b p t : List UInt8} (hb : b = p ++ (encI n ++ t)) : rB b lo hi (p.length, false) = (n, (p ++ encI n).length, false) := by
  have : rdI b p.length = some (n, (encI n).length) := rdI_enc h (t := t) (by rw [hb]; simp)
  rw [rB_in this h1]; simp
/-- a block made later, written -/
theorem RdO.set {x : Nat} (h : RdO enc k T e w base g rv b s ov l) (hB : Bytes [x] w rv b) (hr : ∀ f ∈ ov.ownBlock.toList, f ≠ x) (hg : x ≠ g) (hk : Keep [x] w w') : RdO enc k T e w' base g rv b s ov l :=
  ⟨h.rd.keep hk (by simp; exact fun e => hg e.symm) hB, own_keep h.row hk (fun r hr' hm => hr r (by simp [hr']) (List.mem_singleton.1 hm)), h.off, Raw.keep (Raw.both h.by' hB) hk (fun f hf => .inl (List.mem_append_right _ hf)) (fun f hf => .inl (List.mem_append_left _ hf))⟩
theorem RdO.apart {x : Nat} (h : RdO enc k T e w base g rv b s ov l) (hx : w.heap.size ≤ x) : Bytes [x] w rv b := Raw.fresh h.by' (fun f hf => by rw [List.mem_singleton.1 hf]; exact .inr hx)
theorem RdO.rows {x : Nat} (h : RdO enc k T e w base g rv b s ov l) (hx : w.heap.size ≤ x) : ∀ f ∈ ov.ownBlock.toList, f ≠ x := fun f hf e => by have := (h.row.lt f (by simpa using hf)).2; omega
theorem bytes_read {x : Nat} {s' : Nat × Bool} {s : Nat × Bool} (h : RdAt T w g rv b s.1 s.2) (hB : Bytes [x] w rv b) (hr : RdR T w g rv b s' w') : Bytes [x] w' rv b :=
  Raw.keep (Raw.both hB h.hb) hr.2 (fun f hf => .inl (List.mem_append_right _ hf)) (fun f hf => .inl (List.mem_append_left _ hf))
end Go.Wi
