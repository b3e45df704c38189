/- The wire's integers and byte strings: plain facts. No program in sight. -/
import Derived.Test.YtplhmoapcicncaaGreatM1
import Derived.Laws.Bits64
import Derived.Laws.Bits64b
import Derived.Test.YtplhmoapcicncaaGreatRows
namespace Go.Wi
open Go Go.RowKit Go.Bs Go.Cl Go.Rw

def groups (u : Nat) : List UInt8 := if u < 128 then [UInt8.ofNat u] else UInt8.ofNat (128 + u % 128) :: groups (u / 128)
termination_by u
decreasing_by omega
theorem groups_lt {u : Nat} (h : u < 128) : groups u = [UInt8.ofNat u] := by rw [groups, if_pos h]
theorem groups_ge {u : Nat} (h : 128 ≤ u) : groups u = UInt8.ofNat (128 + u % 128) :: groups (u / 128) := by rw [groups, if_neg (by omega)]
theorem groups_pos (u : Nat) : 0 < (groups u).length := by
  by_cases h : u < 128
  · rw [groups_lt h]; simp
  · rw [groups_ge (by omega)]; simp
def zig (n : Int) : Nat := if n < 0 then (-2 * n - 1).toNat else (2 * n).toNat
def zag (u : Nat) : Int := if u % 2 = 1 then -((u / 2 : Nat) : Int) - 1 else ((u / 2 : Nat) : Int)
theorem zag_zig (n : Int) : zag (zig n) = n := by
  unfold zag zig
  by_cases h : n < 0
  · rw [if_pos h, if_pos (by omega)]; omega
  · rw [if_neg h, if_neg (by omega)]; omega
theorem zig_zag (u : Nat) : zig (zag u) = u := by
  unfold zag zig
  by_cases h : u % 2 = 1
  · rw [if_pos h, if_pos (by omega)]; omega
  · rw [if_neg h, if_neg (by omega)]; omega
def fits (n : Int) : Prop := -9223372036854775808 ≤ n ∧ n ≤ 9223372036854775807
theorem zig_lt {n : Int} (h : fits n) : zig n < 2 ^ 64 := by
  unfold fits at h
  unfold zig
  split <;> omega
theorem zag_fits {u : Nat} (h : u < 2 ^ 64) : fits (zag u) := by
  unfold fits zag
  split <;> omega
def encI (n : Int) : List UInt8 := groups (zig n)
def encB (x : List UInt8) : List UInt8 := encI x.length ++ x
theorem u8_of {c : Nat} (h : c < 256) : (UInt8.ofNat c).toNat = c := by simp; omega

/-- reading, from place k on, with the sum u so far: the sum, and how many bytes there were -/
def rdU : List UInt8 → Nat → Nat → Option (Nat × Nat)
  | [], _, _ => none
  | c :: r, k, u => if 10 ≤ k ∨ (k = 9 ∧ 1 < c.toNat) ∨ (0 < k ∧ c.toNat = 0) then none
    else if c.toNat < 128 then some (u + c.toNat * 128 ^ k, k + 1) else rdU r (k + 1) (u + (c.toNat % 128) * 128 ^ k)
theorem rdU_groups : ∀ (v k u : Nat) (t : List UInt8), k ≤ 9 → v < 2 ^ (64 - 7 * k) → (k = 0 ∨ 0 < v) → rdU (groups v ++ t) k u = some (u + v * 128 ^ k, k + (groups v).length) := by
  intro v
  induction v using Nat.strongRecOn with
  | _ v ih =>
    intro k u t hk hv h0
    by_cases h : v < 128
    · rw [groups_lt h]
      simp only [List.cons_append, List.nil_append, rdU, u8_of (show v < 256 by omega), List.length_cons, List.length_nil]
      have h9 : k = 9 → v ≤ 1 := fun e => by subst e; simp at hv; omega
      rw [if_neg (by omega), if_pos h]
    · rw [groups_ge (by omega)]
      have hc : (UInt8.ofNat (128 + v % 128)).toNat = 128 + v % 128 := u8_of (by omega)
      have h9 : k ≤ 8 := by
        rcases Nat.lt_or_ge 8 k with h' | h'
        · have : k = 9 := by omega
          subst this; simp at hv; omega
        · exact h'
      simp only [List.cons_append, rdU, hc, List.length_cons]
      rw [if_neg (by omega), if_neg (by omega)]
      have hp : 2 ^ (64 - 7 * k) = 2 ^ (64 - 7 * (k + 1)) * 128 := by
        rw [show (128 : Nat) = 2 ^ 7 from rfl, ← Nat.pow_add]; congr 1; omega
      rw [ih (v / 128) (by omega) (k + 1) _ t (by omega) (by rw [hp] at hv; exact Nat.div_lt_of_lt_mul (by rw [Nat.mul_comm]; exact hv)) (.inr (by omega))]
      have e1 : (128 + v % 128) % 128 = v % 128 := by omega
      have e2 : u + v % 128 * 128 ^ k + v / 128 * 128 ^ (k + 1) = u + v * 128 ^ k := by
        rw [Nat.pow_succ, Nat.add_assoc, Nat.mul_comm (128 ^ k) 128, ← Nat.mul_assoc, ← Nat.add_mul]
        congr 2; omega
      rw [e1, e2]
      congr 2; omega
theorem rdU_out : ∀ (r : List UInt8) (k u s m : Nat), rdU r k u = some (s, m) → k ≤ 9 ∧ ∃ v, s = u + v * 128 ^ k ∧ v < 2 ^ (64 - 7 * k) ∧ (k = 0 ∨ 0 < v) ∧ m = k + (groups v).length ∧ ∃ t, r = groups v ++ t
  | [], _, _, _, _, h => by simp [rdU] at h
  | c :: r, k, u, s, m, h => by
    have hc := c.toNat_lt
    unfold rdU at h
    split at h
    · cases h
    · rename_i hn
      have hk : k ≤ 9 := by omega
      split at h
      · rename_i hl
        simp at h
        obtain ⟨rfl, rfl⟩ := h
        refine ⟨hk, c.toNat, rfl, ?_, by omega, by rw [groups_lt hl]; simp, r, by rw [groups_lt hl]; simp⟩
        rcases Nat.lt_or_ge k 9 with h' | h'
        · exact Nat.lt_of_lt_of_le (show c.toNat < 2 ^ 8 by omega) (Nat.pow_le_pow_right (by omega) (by omega))
        · have : k = 9 := by omega
          subst this; simp; omega
      · rename_i hl
        obtain ⟨hk1, v, rfl, hv, h0, rfl, t, rfl⟩ := rdU_out r (k + 1) _ s m h
        have hv0 : 0 < v := by omega
        have hge : 128 ≤ c.toNat % 128 + 128 * v := by omega
        have e0 : (c.toNat % 128 + 128 * v) % 128 = c.toNat % 128 := by omega
        have e1 : (c.toNat % 128 + 128 * v) / 128 = v := by omega
        have hg : groups (c.toNat % 128 + 128 * v) = c :: groups v := by
          rw [groups_ge hge, e0, e1, show 128 + c.toNat % 128 = c.toNat by omega]
          simp
        have hp : 2 ^ (64 - 7 * k) = 2 ^ (64 - 7 * (k + 1)) * 128 := by
          rw [show (128 : Nat) = 2 ^ 7 from rfl, ← Nat.pow_add]; congr 1; omega
        refine ⟨hk, c.toNat % 128 + 128 * v, ?_, by rw [hp]; omega, by omega, by rw [hg]; simp; omega, t, by rw [hg]; rfl⟩
        rw [Nat.pow_succ, Nat.add_mul, Nat.add_assoc]
        congr 2
        rw [Nat.mul_comm 128 v, Nat.mul_assoc, Nat.mul_comm (128 ^ k) 128]
/-- an integer, read at a place -/
def rdI (b : List UInt8) (at_ : Nat) : Option (Int × Nat) := (rdU (b.drop at_) 0 0).map fun p => (zag p.1, p.2)
theorem rdI_enc {n : Int} (h : fits n) {b t : List UInt8} {at_ : Nat} (hb : b.drop at_ = encI n ++ t) : rdI b at_ = some (n, (encI n).length) := by
  unfold rdI
  rw [hb, encI, rdU_groups _ _ _ _ (by omega) (zig_lt h) (.inl rfl)]
  simp [zag_zig]
theorem rdI_out {b : List UInt8} {at_ m : Nat} {n : Int} (h : rdI b at_ = some (n, m)) : fits n ∧ m = (encI n).length ∧ ∃ t, b.drop at_ = encI n ++ t := by
  unfold rdI at h
  cases hr : rdU (b.drop at_) 0 0 with
  | none => rw [hr] at h; cases h
  | some p =>
    obtain ⟨s, m'⟩ := p
    rw [hr] at h
    simp at h
    obtain ⟨rfl, rfl⟩ := h
    obtain ⟨_, v, rfl, hv, _, rfl, t, ht⟩ := rdU_out _ _ _ _ _ hr
    simp only [Nat.zero_add, Nat.pow_zero, Nat.mul_one]
    exact ⟨zag_fits (by simpa using hv), by rw [encI, zig_zag], t, by rw [encI, zig_zag]; exact ht⟩
theorem encI_pos (n : Int) : 0 < (encI n).length := groups_pos _
theorem groups_len : ∀ (j u : Nat), 0 < j → u < 128 ^ j → (groups u).length ≤ j
  | 0, _, h, _ => absurd h (Nat.lt_irrefl _)
  | j + 1, u, _, hu => by
    by_cases h : u < 128
    · rw [groups_lt h]; simp
    · rw [groups_ge (by omega), List.length_cons]
      have hj : 0 < j := by
        rcases Nat.eq_zero_or_pos j with rfl | hj
        · simp at hu; omega
        · exact hj
      have := groups_len j (u / 128) hj (Nat.div_lt_of_lt_mul (by rw [Nat.mul_comm, ← Nat.pow_succ]; exact hu))
      omega
theorem groups_len10 {u : Nat} (h : u < 2 ^ 64) : (groups u).length ≤ 10 := groups_len 10 u (by omega) (Nat.lt_of_lt_of_le h (by decide))
theorem encI_len {n : Int} (h : fits n) : (encI n).length ≤ 10 := groups_len10 (zig_lt h)
/-- a row of bytes of a call's own -/
def BRow (e : Nat) (w : World) (base : Nat) (v : Value) (l : List UInt8) : Prop := w.ownsRow base e 1 v l.length (bytesV l)
/-- a row of bytes that has grown to l -/
structure Grows (e : Nat) (w w' : World) (base : Nat) (v v' : Value) (l : List UInt8) : Prop where
  row : BRow e w' base v' l
  keep : Keep v.ownBlock.toList w w'
  news : ∀ f ∈ v'.ownBlock.toList, f ∈ v.ownBlock.toList ∨ w.heap.size ≤ f
theorem Grows.refl {e : Nat} {w : World} {base : Nat} {v : Value} {l : List UInt8} (h : BRow e w base v l) : Grows e w w base v v l := ⟨h, Keep.refl _ _, fun _ hf => .inl hf⟩
theorem Grows.trans {e : Nat} {w w1 w2 : World} {base : Nat} {v v1 v2 : Value} {l l1 : List UInt8} (h : Grows e w w1 base v v1 l1) (h' : Grows e w1 w2 base v1 v2 l) : Grows e w w2 base v v2 l :=
  ⟨h'.row, h.keep.trans h'.keep h.news, fun f hf => by
    rcases h'.news f hf with h1 | h1
    · exact h.news f h1
    · exact .inr (Nat.le_trans h.keep.size h1)⟩
theorem Grows.below {e : Nat} {w w' W : World} {base B : Nat} {v v' : Value} {l l0 : List UInt8} (h : Grows e w w' base v v' l) (h0 : BRow e w base v l0) (hB : B ≤ base) (hbase : base ≤ w.heap.size) (hb : Below B W w) : Below B W w' :=
  hb.trans (h.keep.below (by omega) (fun f hf => by have := (h0.lt f (by simpa using hf)).1; omega))
theorem BRow.below {e : Nat} {w w' : World} {base : Nat} {v : Value} {l : List UInt8} (h : BRow e w base v l) (hb : Below w.heap.size w w') : BRow e w' base v l := own_below h hb (Nat.le_refl _)
theorem BRow.bytes {e : Nat} {w : World} {base : Nat} {v : Value} {l : List UInt8} {F : List Nat} (h : BRow e w base v l) (hF : ∀ f ∈ F, f < base) : Bytes F w v l := Bytes.row h rfl hF
/-- one byte, in a block of its own -/
theorem one_byte {w : World} {g e : Nat} {u : Value} (b : UInt8) (hu : u = byteV b) (h : w.heap[g]? = some (.cells #[u] e (0, 0))) : Raw [] 1 w (.slice (some ⟨g, 0, none⟩) 1 1) 1 (bytesV [b]) := by
  subst hu
  exact Raw.of_block (ys := bytesV [b]) h (by intro h; cases h) (bytesV_one _) rfl (Nat.le_refl _) (by unfold maxLen; omega)
theorem Grows.app {e m : Nat} {w wr w2 : World} {base : Nat} {v bv v2 : Value} {l1 l2 : List UInt8} {o : Obj} (h : Grows e w wr base v bv l1) (hm : m = l2.length) (hown : w2.ownsRow base e 1 v2 (l1.length + m) (bytesV l1 ++ bytesV l2))
    (hk : Keep bv.ownBlock.toList (wr.alloc o) w2) (hn : ∀ f ∈ v2.ownBlock.toList, f ∈ bv.ownBlock.toList ∨ (wr.alloc o).heap.size ≤ f) : Grows e w w2 base v v2 (l1 ++ l2) := by
  subst hm
  refine h.trans ⟨?_, ((Keep.refl bv.ownBlock.toList wr).alloc o).trans hk (fun f hf => .inl hf), fun f hf => ?_⟩
  · show w2.ownsRow base e 1 v2 (l1 ++ l2).length (bytesV (l1 ++ l2))
    rw [List.length_append, bytesV_append]; exact hown
  · rcases hn f hf with h1 | h1
    · exact .inl h1
    · exact .inr (by simp at h1; omega)
theorem xor_max (x : Nat) (h : x < 18446744073709551616) : bits BinOp.xor .u64 IntKind.u64.max x = ((18446744073709551615 - x : Nat) : Int) := by
  have h1 : IntKind.u64.max = ((18446744073709551615 : Nat) : Int) := rfl
  rw [h1, bits_xor_u64_nat _ _ (by omega) h]
  congr 1
  have e : (18446744073709551615 ^^^ x) = ((BitVec.allOnes 64) ^^^ (BitVec.ofNat 64 x)).toNat := by
    rw [BitVec.toNat_xor, BitVec.toNat_allOnes, BitVec.toNat_ofNat, Nat.mod_eq_of_lt h]
  rw [e, BitVec.allOnes_xor, BitVec.toNat_not, BitVec.toNat_ofNat, Nat.mod_eq_of_lt h]
/-- the zigzag of a negative number, as the program makes it -/
theorem zig_neg {n : Int} (h0 : n < 0) (h1 : -9223372036854775808 ≤ n) {z : Nat} (hz : (z : Int) = -2 * n - 1) : bits BinOp.xor .u64 IntKind.u64.max (IntKind.u64.wrap (IntKind.u64.wrap n * 2)) = (z : Int) := by
  have e0 : IntKind.u64.wrap n = n + 18446744073709551616 := by rw [IntKind.wrap_u64]; omega
  rw [e0, IntKind.wrap_u64]
  have e : (n + 18446744073709551616) * 2 % 18446744073709551616 = ((18446744073709551615 - z : Nat) : Int) := by omega
  rw [e, xor_max _ (by omega)]
  omega
/-- a row of one byte, built -/
theorem one_row {w : World} {e : Nat} {u : Value} (b : UInt8) (hu : u = byteV b) : BRow e (w.alloc (.cells #[u] e)) w.heap.size (.slice (some ⟨w.heap.size, 0, none⟩) 1 1) [b] := by
  subst hu
  exact ⟨by simp [bytesV], .inr ⟨w.heap.size, 1, #[byteV b], rfl, Nat.le_refl _, heap_alloc_new w _, Nat.le_refl _, by unfold maxLen; omega, rfl, rfl⟩⟩
theorem and127 : ∀ x : Fin 256, bits BinOp.and .u8 ((x.val : Nat) : Int) 127 = ((x.val % 128 : Nat) : Int) := by decide +kernel
theorem pow7 (k : Nat) : (128 : Nat) ^ k = 2 ^ (7 * k) := by rw [show (128 : Nat) = 2 ^ 7 from rfl, ← Nat.pow_mul]
theorem pow9 : (128 : Nat) ^ 9 = 9223372036854775808 := by decide
theorem pow8 : (128 : Nat) ^ 8 = 72057594037927936 := by decide
theorem le_sum {a b c d : Nat} (h : a ≤ b) (h2 : c ≤ d) (h3 : b + d ≤ 18446744073709551616) : a + c ≤ 18446744073709551616 := by omega
theorem or_bound {x k : Nat} (hk : k ≤ 9) (h9 : k = 9 → x ≤ 1) : x % 128 * 128 ^ k + 128 ^ k ≤ 18446744073709551616 := by
  by_cases e : k = 9
  · have h1 : x % 128 ≤ 1 := by have := h9 e; omega
    subst e
    rw [pow9]
    exact le_sum (Nat.mul_le_mul_right 9223372036854775808 h1) (Nat.le_refl _) (by decide)
  · have hk8 : 128 ^ k ≤ 72057594037927936 := by rw [← pow8]; exact Nat.pow_le_pow_right (by omega) (by omega)
    exact le_sum (Nat.mul_le_mul (show x % 128 ≤ 127 by omega) hk8) hk8 (by decide)
/-- the sum, as the program makes it -/
theorem or_sum {u x k : Nat} (hk : k ≤ 9) (hu : u < 128 ^ k) (hx : x < 256) (h9 : k = 9 → x ≤ 1) : u + x % 128 * 128 ^ k < 18446744073709551616 ∧
    bits BinOp.or .u64 (u : Int) (IntKind.u64.wrap (IntKind.u64.wrap (bits BinOp.and .u8 (x : Int) 127) * (2 : Int) ^ (7 * k))) = ((u + x % 128 * 128 ^ k : Nat) : Int) := by
  rw [show (2 : Int) ^ (7 * k) = ((2 ^ (7 * k) : Nat) : Int) by simp]
  have hp : 128 ^ k ≤ 128 ^ 9 := Nat.pow_le_pow_right (by omega) hk
  have hy := or_bound hk h9
  obtain ⟨P, hP⟩ : ∃ P, 128 ^ k = P := ⟨_, rfl⟩
  rw [hP] at hy hu
  clear hp
  have hp0 : 0 < P := by rw [← hP]; exact Nat.pow_pos (by omega)
  have hP2 : P = 2 ^ (7 * k) := by rw [← hP, pow7]
  rw [hP]
  clear hP
  refine ⟨by omega, ?_⟩
  have ha := and127 ⟨x, hx⟩
  simp only at ha
  have e1 : IntKind.u64.wrap ((x % 128 : Nat) : Int) = ((x % 128 : Nat) : Int) := by rw [IntKind.wrap_u64]; omega
  have e2 : ((x % 128 : Nat) : Int) * ((2 ^ (7 * k) : Nat) : Int) = ((x % 128 * P : Nat) : Int) := by rw [← hP2]; exact (Int.natCast_mul _ _).symm
  have e3 : IntKind.u64.wrap ((x % 128 * P : Nat) : Int) = ((x % 128 * P : Nat) : Int) := by
    rw [IntKind.wrap_u64]
    omega
  rw [ha, e1, e2, e3, bits_or_u64_nat _ _ (by omega) (by omega)]
  congr 1
  rw [Nat.or_comm, Nat.mul_comm, hP2, ← Nat.two_pow_add_eq_or_of_lt (by rw [← hP2]; exact hu), Nat.add_comm, Nat.mul_comm]
theorem half_wrap {v : Nat} (h : v < 18446744073709551616) : wrap64 ((v : Int) / 2) = ((v / 2 : Nat) : Int) := by rw [wrap64]; omega
theorem and_one {v : Nat} (h : v < 18446744073709551616) : bits BinOp.and .u64 (v : Int) 1 = ((v % 2 : Nat) : Int) := by
  have := bits_and_u64_nat v 1 h (by omega)
  rw [Nat.and_one_is_mod] at this
  exact this
theorem zag_even {v : Nat} (h : v % 2 = 0) (hv : v < 18446744073709551616) : wrap64 ((v : Int) / 2) = zag v := by rw [half_wrap hv]; simp [zag, h]
theorem zag_odd {v : Nat} (h : v % 2 = 1) : -((v / 2 : Nat) : Int) - 1 = zag v := by simp [zag, h]
theorem xor_m1 {m : Nat} (h : m < 9223372036854775808) : bits BinOp.xor .i64 (-1) (m : Int) = -(m : Int) - 1 := by
  show IntKind.i64.wrap (((BitVec.ofInt 64 (-1) ^^^ BitVec.ofInt 64 (m : Int)).toNat : Nat) : Int) = _
  have e1 : BitVec.ofInt 64 (-1) = BitVec.allOnes 64 := by decide
  rw [e1, BitVec.allOnes_xor, BitVec.toNat_not, BitVec.ofInt_natCast, BitVec.toNat_ofNat, Nat.mod_eq_of_lt (by omega)]
  rw [IntKind.wrap_i64]
  omega
theorem zag_odd' {v : Nat} (h : v % 2 = 1) (hv : v < 18446744073709551616) : bits BinOp.xor .i64 (-1) ((v : Int) / 2) = zag v := by
  rw [show (v : Int) / 2 = ((v / 2 : Nat) : Int) by omega, xor_m1 (by omega), zag_odd h]
theorem int63 : (2 : Int) ^ (7 * 9) = 9223372036854775808 := by decide
theorem zag_odd2 {v : Nat} (h : v % 2 = 1) (hv : v < 18446744073709551616) : bits BinOp.xor .i64 (-1) (wrap64 ((v : Int) / 2)) = zag v := by rw [half_wrap hv, xor_m1 (by omega), zag_odd h]
end Go.Wi
/- The wire's integers: the program's encoder -/
namespace Go.Proofs.YtplhmoapcicncaaGreat
open Go.RowKit Go.Bs Go.Cl Go.Rw Go.Wi
theorem elB : Rw.Elem Tryz.prog 22 5 1 1 (.int .u8 0) := ⟨Tryz.underlying22, by kernel_rfl, rfl, by decide⟩
set_option maxRecDepth 100000 in
set_option maxHeartbeats 1000000 in
theorem wint_any (v : Value) (l : List UInt8) (n : Int) (base : Nat) (w : World) (hn : Wi.fits n) (hl : l.length ≤ 1000000) (hown : BRow 5 w base v l) (hbase : base ≤ w.heap.size) :
    Calls Tryz.prog 92 #[v, .int .i64 n] w fun e w' => ∃ v', e = .returned v' ∧ Grows 5 w w' base v v' (l ++ encI n) := by
  obtain ⟨a, c, rfl⟩ := own_slice hown
  have hz : zig n < 18446744073709551616 := zig_lt hn
  have hz10 := encI_len hn
  have Hown := Lib.hid (Grows.refl hown); clear hown
  obtain ⟨z, hze⟩ : ∃ z, zig n = z := ⟨_, rfl⟩
  have hzz : (n < 0 ∧ (z : Int) = -2 * n - 1) ∨ (0 ≤ n ∧ n * 2 = (z : Int)) := by
    rw [← hze]; unfold zig
    by_cases h : n < 0
    · rw [if_pos h]; exact .inl ⟨h, by omega⟩
    · rw [if_neg h]; exact .inr ⟨by omega, by omega⟩
  have henc : encI n = groups z := by rw [encI, hze]
  rw [hze] at hz
  clear hze
  rw [henc] at hz10 ⊢
  obtain ⟨hn1, hn2⟩ := hn
  clear henc
  rcases hzz with ⟨h0, hzz⟩ | ⟨h0, hzz⟩
  · have hx := Lib.hid (zig_neg h0 hn1 hzz)
    have Hz := Lib.hid hz
    clear hzz hz
    go_enter Tryz.func92, Tryz.ntmps92
    go_wp2
    rw [hx.out]
    go_loopw [0, 5] (fun bv uv wr => ∃ (acc : List UInt8) (u : Nat), uv = .int .u64 u ∧ u < 18446744073709551616 ∧ acc ++ groups u = groups z ∧ Grows 5 w wr base (.slice a l.length c) bv (l ++ acc)) (fun _ uv _ => (intOf uv).toNat)
    case atStart => exact ⟨[], z, rfl, Hz.out, rfl, by simpa using Hown.out⟩
    case round =>
      obtain ⟨acc, u, rfl, hu, hacc, hg⟩ := hrel
      have hal : acc.length ≤ 10 := by have := congrArg List.length hacc; simp at this; omega
      have hbw : base ≤ wr.heap.size := Nat.le_trans hbase hg.keep.size
      obtain ⟨la, hla⟩ : ∃ la, l ++ acc = la := ⟨_, rfl⟩
      have hlal : la.length ≤ 1000010 := by rw [← hla]; simp; omega
      rw [hla] at hg
      have Hla := Lib.hid hla; clear hla
      obtain ⟨ga, gc, rfl⟩ := own_slice hg.row
      have Hg := Lib.hid hg; clear hg
      have Hacc := Lib.hid hacc; clear hacc
      have huI : (u : Int) < 18446744073709551616 := by omega
      by_cases h8 : 128 ≤ u
      · have h8' : 128 ≤ (u : Int) := by omega
        have hgr := groups_ge h8
        have Hgr := Lib.hid hgr; clear hgr
        obtain ⟨cb, hcb⟩ : ∃ cb : UInt8, UInt8.ofNat (128 + u % 128) = cb := ⟨_, rfl⟩
        have hcn : cb.toNat = 128 + u % 128 := by rw [← hcb]; exact u8_of (by omega)
        rw [hcb] at Hgr
        have HX := Lib.hid (one_byte (w := wr.alloc (.cells #[.int .u8 (128 + (u : Int) % 128)] 5)) (e := 5) (u := .int .u8 (128 + (u : Int) % 128)) cb (by unfold byteV; rw [hcn]; congr 1) (heap_alloc_new wr _))
        clear hcn hcb
        have HR := Lib.hid (Hg.out.row.alloc (.cells #[.int .u8 (128 + (u : Int) % 128)] 5))
        go_wp2_with (at_builtin; refine wpList_appF elB Tryz.underlying22 HR.out HX.out (Below.refl 0 _) rfl _ _ rfl rfl rfl ?c3 ?cB ?c5 ?_)
        case c3 => omega
        case cB => omega
        case c5 => simp; omega
        intro v2 w2 hown2 _ hk2 hn2
        have hg2 := Hg.out.app rfl hown2 hk2 (by simpa using hn2)
        rw [← Hla.out, List.append_assoc] at hg2
        have Hg2 := Lib.hid hg2
        clear hg2 hown2 hk2 hn2
        go_wp2
        go_roundw
        case rel => exact ⟨acc ++ [cb], u / 128, by go_num, by omega, by rw [List.append_assoc, ← Hacc.out, Hgr.out]; rfl, Hg2.out⟩
        case measure => simp [intOf]; omega
      · have h8' : (u : Int) < 128 := by omega
        clear huI hu
        have hgr := groups_lt (show u < 128 by omega)
        have Hgr := Lib.hid hgr; clear hgr
        obtain ⟨cb, hcb⟩ : ∃ cb : UInt8, UInt8.ofNat u = cb := ⟨_, rfl⟩
        have hcn : cb.toNat = u := by rw [← hcb]; exact u8_of (by omega)
        rw [hcb] at Hgr
        have HX := Lib.hid (one_byte (w := wr.alloc (.cells #[.int .u8 (u : Int)] 5)) (e := 5) (u := .int .u8 (u : Int)) cb (by unfold byteV; rw [hcn]) (heap_alloc_new wr _))
        clear hcn hcb
        have HR := Lib.hid (Hg.out.row.alloc (.cells #[.int .u8 (u : Int)] 5))
        go_wp2_with (at_builtin; refine wpList_appF elB Tryz.underlying22 HR.out HX.out (Below.refl 0 _) rfl _ _ rfl rfl rfl ?c3 ?cB ?c5 ?_)
        case c3 => omega
        case cB => omega
        case c5 => simp; omega
        intro v2 w2 hown2 _ hk2 hn2
        have hg2 := Hg.out.app rfl hown2 hk2 (by simpa using hn2)
        rw [← Hla.out, List.append_assoc, show acc ++ [cb] = groups z by rw [← Hgr.out]; exact Hacc.out] at hg2
        have Hg2 := Lib.hid hg2
        clear hg2 hown2 hk2 hn2
        go_wp2
        go_ret
        exact ⟨_, rfl, Hg2.out⟩
  · have h0' : ¬ n < 0 := by omega
    have Hz := Lib.hid hz
    clear hz
    go_enter Tryz.func92, Tryz.ntmps92
    go_wp2
    go_loopw [0, 5] (fun bv uv wr => ∃ (acc : List UInt8) (u : Nat), uv = .int .u64 u ∧ u < 18446744073709551616 ∧ acc ++ groups u = groups z ∧ Grows 5 w wr base (.slice a l.length c) bv (l ++ acc)) (fun _ uv _ => (intOf uv).toNat)
    case atStart => exact ⟨[], z, rfl, Hz.out, rfl, by simpa using Hown.out⟩
    case round =>
      obtain ⟨acc, u, rfl, hu, hacc, hg⟩ := hrel
      have hal : acc.length ≤ 10 := by have := congrArg List.length hacc; simp at this; omega
      have hbw : base ≤ wr.heap.size := Nat.le_trans hbase hg.keep.size
      obtain ⟨la, hla⟩ : ∃ la, l ++ acc = la := ⟨_, rfl⟩
      have hlal : la.length ≤ 1000010 := by rw [← hla]; simp; omega
      rw [hla] at hg
      have Hla := Lib.hid hla; clear hla
      obtain ⟨ga, gc, rfl⟩ := own_slice hg.row
      have Hg := Lib.hid hg; clear hg
      have Hacc := Lib.hid hacc; clear hacc
      have huI : (u : Int) < 18446744073709551616 := by omega
      by_cases h8 : 128 ≤ u
      · have h8' : 128 ≤ (u : Int) := by omega
        have hgr := groups_ge h8
        have Hgr := Lib.hid hgr; clear hgr
        obtain ⟨cb, hcb⟩ : ∃ cb : UInt8, UInt8.ofNat (128 + u % 128) = cb := ⟨_, rfl⟩
        have hcn : cb.toNat = 128 + u % 128 := by rw [← hcb]; exact u8_of (by omega)
        rw [hcb] at Hgr
        have HX := Lib.hid (one_byte (w := wr.alloc (.cells #[.int .u8 (128 + (u : Int) % 128)] 5)) (e := 5) (u := .int .u8 (128 + (u : Int) % 128)) cb (by unfold byteV; rw [hcn]; congr 1) (heap_alloc_new wr _))
        clear hcn hcb
        have HR := Lib.hid (Hg.out.row.alloc (.cells #[.int .u8 (128 + (u : Int) % 128)] 5))
        go_wp2_with (at_builtin; refine wpList_appF elB Tryz.underlying22 HR.out HX.out (Below.refl 0 _) rfl _ _ rfl rfl rfl ?c3 ?cB ?c5 ?_)
        case c3 => omega
        case cB => omega
        case c5 => simp; omega
        intro v2 w2 hown2 _ hk2 hn2
        have hg2 := Hg.out.app rfl hown2 hk2 (by simpa using hn2)
        rw [← Hla.out, List.append_assoc] at hg2
        have Hg2 := Lib.hid hg2
        clear hg2 hown2 hk2 hn2
        go_wp2
        go_roundw
        case rel => exact ⟨acc ++ [cb], u / 128, by go_num, by omega, by rw [List.append_assoc, ← Hacc.out, Hgr.out]; rfl, Hg2.out⟩
        case measure => simp [intOf]; omega
      · have h8' : (u : Int) < 128 := by omega
        clear huI hu
        have hgr := groups_lt (show u < 128 by omega)
        have Hgr := Lib.hid hgr; clear hgr
        obtain ⟨cb, hcb⟩ : ∃ cb : UInt8, UInt8.ofNat u = cb := ⟨_, rfl⟩
        have hcn : cb.toNat = u := by rw [← hcb]; exact u8_of (by omega)
        rw [hcb] at Hgr
        have HX := Lib.hid (one_byte (w := wr.alloc (.cells #[.int .u8 (u : Int)] 5)) (e := 5) (u := .int .u8 (u : Int)) cb (by unfold byteV; rw [hcn]) (heap_alloc_new wr _))
        clear hcn hcb
        have HR := Lib.hid (Hg.out.row.alloc (.cells #[.int .u8 (u : Int)] 5))
        go_wp2_with (at_builtin; refine wpList_appF elB Tryz.underlying22 HR.out HX.out (Below.refl 0 _) rfl _ _ rfl rfl rfl ?c3 ?cB ?c5 ?_)
        case c3 => omega
        case cB => omega
        case c5 => simp; omega
        intro v2 w2 hown2 _ hk2 hn2
        have hg2 := Hg.out.app rfl hown2 hk2 (by simpa using hn2)
        rw [← Hla.out, List.append_assoc, show acc ++ [cb] = groups z by rw [← Hgr.out]; exact Hacc.out] at hg2
        have Hg2 := Lib.hid hg2
        clear hg2 hown2 hk2 hn2
        go_wp2
        go_ret
        exact ⟨_, rfl, Hg2.out⟩
end Go.Proofs.YtplhmoapcicncaaGreat
/- The wire's byte strings: the program's and the reference's encoders; the program reads one -/
namespace Go.Wi
open Go Go.RowKit Go.Bs Go.Cl Go.Rw
theorem brow_nil (e : Nat) (w : World) (base : Nat) : BRow e w base (.slice none 0 0) [] := World.ownsRow_nil _ _ _ _
theorem brow_app {e m : Nat} {w : World} {base : Nat} {v : Value} {l1 l2 : List UInt8} (hm : m = l2.length) (h : w.ownsRow base e 1 v (l1.length + m) (bytesV l1 ++ bytesV l2)) : BRow e w base v (l1 ++ l2) := by
  subst hm
  show w.ownsRow base e 1 v (l1 ++ l2).length (bytesV (l1 ++ l2))
  rw [List.length_append, bytesV_append]; exact h
end Go.Wi
namespace Go.Proofs.YtplhmoapcicncaaGreat
open Go.RowKit Go.Bs Go.Cl Go.Rw Go.Wi
set_option maxHeartbeats 1000000 in
/-- the program's encoder of byte strings -/
theorem wbytes_any (v xv : Value) (l x : List UInt8) (base : Nat) (w : World) (hl : l.length ≤ 1000000) (hx : x.length ≤ 1000000) (hown : BRow 5 w base v l) (hX : Bytes v.ownBlock.toList w xv x) (hbase : base ≤ w.heap.size) :
    Calls Tryz.prog 79 #[v, xv] w fun e w' => ∃ v', e = .returned v' ∧ Grows 5 w w' base v v' (l ++ encB x) := by
  obtain ⟨a, c, rfl⟩ := own_slice hown
  obtain ⟨xa, xc, rfl⟩ := Raw.slice hX
  have hfx : Wi.fits (x.length : Int) := by unfold Wi.fits; omega
  have Hfx := Lib.hid hfx; clear hfx
  have Hown := Lib.hid hown; clear hown
  have HX := Lib.hid hX; clear hX
  go_enter Tryz.func79, Tryz.ntmps79
  go_wp2_with fail
  refine (wint_any _ l (x.length : Int) base _ Hfx.out hl Hown.out hbase).mono ?_
  rintro e w1 ⟨v1, rfl, hg1⟩
  have hX1 := Raw.keep HX.out hg1.keep (fun f hf => .inl hf) hg1.news
  have hs1 := hg1.keep.size
  have hr1 := hg1.row
  have hil := encI_len Hfx.out
  obtain ⟨l1, hl1⟩ : ∃ l1, l ++ encI (x.length : Int) = l1 := ⟨_, rfl⟩
  have hl1l : l1.length ≤ 1000010 := by rw [← hl1]; simp; omega
  rw [hl1] at hr1 hg1
  have Hl1 := Lib.hid hl1
  have HG1 := Lib.hid hg1
  have HR1 := Lib.hid hr1
  have HX1 := Lib.hid hX1
  obtain ⟨a1, c1, hv1⟩ := own_slice hr1
  subst hv1
  clear hg1 hX1 hl1 hr1 hil
  go_wp2_with (at_builtin; refine wpList_appF elB Tryz.underlying22 HR1.out HX1.out (Below.refl 0 _) rfl _ _ rfl rfl rfl ?c3 ?cB ?c5 ?_)
  case c3 => omega
  case cB => omega
  case c5 => omega
  intro v2 w2 hown2 _ hk2 hn2
  have hg2 : Grows 5 w w2 base (.slice a l.length c) v2 (l ++ encB x) := by
    refine HG1.out.trans ⟨?_, hk2, by simpa using hn2⟩
    have := brow_app rfl hown2
    rw [← Hl1.out, List.append_assoc] at this
    exact this
  have Hg2 := Lib.hid hg2
  clear hown2 hk2 hn2 hg2
  go_wp2
  go_ret
  exact ⟨_, rfl, Hg2.out⟩
end Go.Proofs.YtplhmoapcicncaaGreat
