/- sum.Of -/
import Derived.Test.YtnbngidelpodkaaKd
namespace Go.Im
open Go Go.RowKit Go.Bs Go.Cl Go.Rw Go.Un
/-- one step of a sum -/
def hs (x : Int) (c : UInt8) : Int :=
  bits BinOp.xor .u64 (IntKind.u64.wrap (bits BinOp.xor .u64 x (IntKind.u64.wrap (c.toNat : Int)) * 15111065706836454659)) (IntKind.u64.wrap (bits BinOp.xor .u64 x (IntKind.u64.wrap (c.toNat : Int)) * 15111065706836454659) / 536870912)
def hsum (x : Int) (l : List UInt8) : Int := l.foldl hs x
theorem hsum_step (x : Int) (l : List UInt8) {k : Nat} (h : k < l.length) : hsum x (l.take (k + 1)) = hs (hsum x (l.take k)) l[k] := by
  unfold hsum; rw [List.take_succ_eq_append_getElem h, List.foldl_append]; rfl
/-- the eight bytes of a number -/
def eb (n : Nat) : List UInt8 := (List.range 8).map fun i => UInt8.ofNat (n / 2 ^ (8 * i))
def ebk (n k : Nat) : List UInt8 := (List.range k).map fun i => UInt8.ofNat (n / 2 ^ (8 * i))
theorem ebk_succ (n k : Nat) : ebk n (k + 1) = ebk n k ++ [UInt8.ofNat (n / 2 ^ (8 * k))] := by simp [ebk, List.range_succ]
theorem ebk_len (n k : Nat) : (ebk n k).length = k := by simp [ebk]
def sumOf (l : List UInt8) : Int := hsum (hsum 125762890854254 l) (eb l.length)
end Go.Im
namespace Go.Proofs.Ytnbngidelpodkaa
open Go.RowKit Go.Bs Go.Cl Go.Rw Go.Un Go.Im
set_option maxHeartbeats 1000000 in
theorem from_any {F : List Nat} (bv : Value) (b : List UInt8) (h : Int) (w : World) (hn : b.length ≤ 1000000) (hB : Bytes F w bv b) :
    Calls Try.prog 41 #[.int .u64 h, bv] w fun e w' => e = .returned (.int .u64 (hsum h b)) ∧ w = w' := by
  obtain ⟨a, c, rfl⟩ := Raw.slice hB
  have HB := Lib.hid hB; clear hB
  go_enter Try.func41, Try.ntmps41
  go_wp2
  go_loopw [0, 10] (fun x i wr => ∃ (k : Nat), k ≤ b.length ∧ i = .int .i64 k ∧ x = .int .u64 (hsum h (b.take k)) ∧ wr = w) (fun _ i _ => b.length - (intOf i).toNat)
  case atStart => exact ⟨0, Nat.zero_le _, rfl, rfl, rfl⟩
  case round =>
    obtain ⟨k, hk, rfl, rfl, rfl⟩ := hrel
    by_cases hlt : k < b.length
    · rcases Raw.cases HB.out with ⟨h0, _⟩ | ⟨_, g, o, cap, hv, _, _, _, _, hc⟩
      · omega
      obtain ⟨rfl, rfl⟩ : a = some ⟨g, o, none⟩ ∧ c = cap := by cases hv; exact ⟨rfl, rfl⟩
      clear hv
      have hck := hc k (byteV b[k]) (by simp [bytesV, List.getElem?_eq_getElem hlt])
      simp only [byteV] at hck
      have hkl : (k : Int) < b.length := by omega
      have HS := Lib.hid (hsum_step h b hlt)
      clear hc
      go_wp2
      refine ⟨⟨k + 1, hlt, by go_num, ?_, trivial⟩, ?_⟩
      · rw [HS.out]; rfl
      · simp [intOf]; omega
    · obtain rfl : k = b.length := by omega
      have HT : Hid (hsum h (b.take b.length) = hsum h b) := Lib.hid (by rw [List.take_length])
      go_wp2
      go_ret
      exact ⟨by rw [HT.out]; rfl, rfl⟩
theorem rstep_any (h : Int) (c : UInt8) (w : World) : Calls Try.prog 65 #[.int .u64 h, .int .u8 c.toNat] w fun e w' => e = .returned (.int .u64 (hs h c)) ∧ w = w' := by
  go_enter Try.func65, Try.ntmps65
  go_wp2
  go_ret
  exact ⟨rfl, rfl⟩
set_option maxHeartbeats 1000000 in
theorem rfrom_any {F : List Nat} (bv : Value) (b : List UInt8) (h : Int) (w : World) (hn : b.length ≤ 1000000) (hB : Bytes F w bv b) :
    Calls Try.prog 62 #[.int .u64 h, bv] w fun e w' => e = .returned (.int .u64 (hsum h b)) ∧ w = w' := by
  obtain ⟨a, c, rfl⟩ := Raw.slice hB
  have HB := Lib.hid hB; clear hB
  go_enter Try.func62, Try.ntmps62
  go_wp2
  go_loopw [0, 5] (fun x i wr => ∃ (k : Nat), k ≤ b.length ∧ i = .int .i64 k ∧ x = .int .u64 (hsum h (b.take k)) ∧ wr = w) (fun _ i _ => b.length - (intOf i).toNat)
  case atStart => exact ⟨0, Nat.zero_le _, rfl, rfl, rfl⟩
  case round =>
    obtain ⟨k, hk, rfl, rfl, rfl⟩ := hrel
    by_cases hlt : k < b.length
    · rcases Raw.cases HB.out with ⟨h0, _⟩ | ⟨_, g, o, cap, hv, _, _, _, _, hc⟩
      · omega
      obtain ⟨rfl, rfl⟩ : a = some ⟨g, o, none⟩ ∧ c = cap := by cases hv; exact ⟨rfl, rfl⟩
      clear hv
      have hck := hc k (byteV b[k]) (by simp [bytesV, List.getElem?_eq_getElem hlt])
      simp only [byteV] at hck
      have hkl : (k : Int) < b.length := by omega
      have HS := Lib.hid (hsum_step h b hlt)
      clear hc
      go_wp2_with fail
      refine (rstep_any _ _ _).mono ?_
      rintro e w' ⟨rfl, rfl⟩
      go_wp2
      go_roundw
      case rel => exact ⟨k + 1, hlt, by go_num, by rw [HS.out], trivial⟩
      case measure => simp [intOf]; omega
    · obtain rfl : k = b.length := by omega
      have HT : Hid (hsum h (b.take b.length) = hsum h b) := Lib.hid (by rw [List.take_length])
      go_wp2
      go_ret
      exact ⟨by rw [HT.out]; rfl, rfl⟩
set_option maxHeartbeats 1000000 in
theorem eight_any (n : Nat) (w : World) (hn : n ≤ 1000000) :
    Calls Try.prog 42 #[.slice none 0 0, .int .i64 n] w fun e w' => ∃ v, e = .returned v ∧ w'.ownsRow w.heap.size 5 1 v 8 (bytesV (eb n)) ∧ Below w.heap.size w w' := by
  go_enter Try.func42, Try.ntmps42
  go_wp2
  go_loopw [0, 6] (fun v i wr => ∃ (k : Nat), k ≤ 8 ∧ i = .int .i64 k ∧ wr.ownsRow w.heap.size 5 1 v k (bytesV (ebk n k)) ∧ Below w.heap.size w wr) (fun _ i _ => 8 - (intOf i).toNat)
  case atStart => exact ⟨0, Nat.zero_le _, rfl, World.ownsRow_nil _ _ _ _, Below.refl _ _⟩
  case round =>
    obtain ⟨k, hk, rfl, hown, hbel⟩ := hrel
    obtain ⟨va, vc, rfl⟩ := own_slice hown
    have HO := Lib.hid hown; clear hown
    by_cases hlt : k < 8
    · have hkl : (k : Int) < 8 := by omega
      have hx : ((n : Int) / 2 ^ (8 * k) % 256) = (((UInt8.ofNat (n / 2 ^ (8 * k))).toNat : Nat) : Int) := by
        have : ((n / 2 ^ (8 * k) : Nat) : Int) = (n : Int) / 2 ^ (8 * k) := by simp
        rw [← this, UInt8.toNat_ofNat']; simp
      have al' := (Below.refl wr.heap.size wr).alloc (Nat.le_refl _) (.cells #[.int .u8 ((n : Int) / 2 ^ (8 * k) % 256)] 5)
      have al := hbel.trans (al'.mono hbel.size)
      have HX : Hid (Raw [] 1 (wr.alloc (.cells #[.int .u8 ((n : Int) / 2 ^ (8 * k) % 256)] 5)) (.slice (some ⟨wr.heap.size, 0, none⟩) 1 1) 1 [.int .u8 ((n : Int) / 2 ^ (8 * k) % 256)]) := Lib.hid (Raw.of_block (ys := [.int .u8 ((n : Int) / 2 ^ (8 * k) % 256)]) (heap_alloc_new wr _) (by simp) (by intro z hz; simp at hz; subst hz; rfl) rfl (Nat.le_refl _) (by unfold maxLen; omega))
      have HO1 := Lib.hid (own_below HO.out al' (Nat.le_refl _))
      have Hx := Lib.hid hx
      clear hx
      go_wp2_with (at_builtin; refine wpList_app el22 Try.underlying22 HO1.out HX.out al rfl _ _ rfl rfl rfl ?c3 (Nat.le_refl _) ?c5 ?_)
      case c3 => omega
      case c5 => exact al.size
      intro v1 w1 hown hb _ _
      have HB1 : Hid (w1.ownsRow w.heap.size 5 1 v1 (k + 1) (bytesV (ebk n (k + 1)))) := Lib.hid (by
        rw [ebk_succ]; rw [Hx.out] at hown; simpa [bytesV, byteV] using hown)
      clear hown
      go_wp2
      go_roundw
      case rel => exact ⟨k + 1, hlt, by go_num, HB1.out, hb⟩
      case measure => simp [intOf]; omega
    · obtain rfl : k = 8 := by omega
      go_wp2
      go_ret
      exact ⟨_, rfl, HO.out, hbel⟩
set_option maxHeartbeats 1000000 in
theorem reight_any (n : Nat) (w : World) (hn : n ≤ 1000000) :
    Calls Try.prog 63 #[.int .u64 n] w fun e w' => ∃ v, e = .returned v ∧ w'.ownsRow w.heap.size 5 1 v 8 (bytesV (eb n)) ∧ Below w.heap.size w w' := by
  go_enter Try.func63, Try.ntmps63
  go_wp2
  go_loopw [0, 3, 4] (fun m v i wr => ∃ (k q : Nat), k ≤ 8 ∧ i = .int .i64 k ∧ q = n / 2 ^ (8 * k) ∧ m = .int .u64 q ∧ wr.ownsRow w.heap.size 5 1 v k (bytesV (ebk n k)) ∧ Below w.heap.size w wr) (fun _ _ i _ => 8 - (intOf i).toNat)
  case atStart => exact ⟨0, n, Nat.zero_le _, rfl, by simp, rfl, World.ownsRow_nil _ _ _ _, Below.refl _ _⟩
  case round =>
    obtain ⟨k, q, hk, rfl, hq, rfl, hown, hbel⟩ := hrel
    obtain ⟨va, vc, rfl⟩ := own_slice hown
    have HO := Lib.hid hown; clear hown
    by_cases hlt : k < 8
    · have hkl : (k : Int) < 8 := by omega
      have hqn : q ≤ 1000000 := by rw [hq]; exact Nat.le_trans (Nat.div_le_self _ _) hn
      have hq' : q / 256 = n / 2 ^ (8 * (k + 1)) := by rw [hq, Nat.div_div_eq_div_mul]; congr 1; show _ = 2 ^ (8 * k + 8); rw [Nat.pow_add]
      have hx : ((q : Int) % 256) = (((UInt8.ofNat (n / 2 ^ (8 * k))).toNat : Nat) : Int) := by
        rw [← hq, UInt8.toNat_ofNat']; simp
      have al' := (Below.refl wr.heap.size wr).alloc (Nat.le_refl _) (.cells #[.int .u8 ((q : Int) % 256)] 5)
      have al := hbel.trans (al'.mono hbel.size)
      have HX : Hid (Raw [] 1 (wr.alloc (.cells #[.int .u8 ((q : Int) % 256)] 5)) (.slice (some ⟨wr.heap.size, 0, none⟩) 1 1) 1 [.int .u8 ((q : Int) % 256)]) := Lib.hid (Raw.of_block (ys := [.int .u8 ((q : Int) % 256)]) (heap_alloc_new wr _) (by simp) (by intro z hz; simp at hz; subst hz; rfl) rfl (Nat.le_refl _) (by unfold maxLen; omega))
      have HO1 := Lib.hid (own_below HO.out al' (Nat.le_refl _))
      have Hx := Lib.hid hx
      have Hq := Lib.hid hq'
      clear hx hq hq'
      go_wp2_with (at_builtin; refine wpList_app el22 Try.underlying22 HO1.out HX.out al rfl _ _ rfl rfl rfl ?c3 (Nat.le_refl _) ?c5 ?_)
      case c3 => omega
      case c5 => exact al.size
      intro v1 w1 hown hb _ _
      have HB1 : Hid (w1.ownsRow w.heap.size 5 1 v1 (k + 1) (bytesV (ebk n (k + 1)))) := Lib.hid (by
        rw [ebk_succ]; rw [Hx.out] at hown; simpa [bytesV, byteV] using hown)
      clear hown
      go_wp2
      go_roundw
      case rel => exact ⟨k + 1, q / 256, hlt, by go_num, Hq.out, by go_num, HB1.out, hb⟩
      case measure => simp [intOf]; omega
    · obtain rfl : k = 8 := by omega
      go_wp2
      go_ret
      exact ⟨_, rfl, HO.out, hbel⟩
theorem of_any {F : List Nat} (bv : Value) (b : List UInt8) (w : World) (hn : b.length ≤ 1000000) (hB : Bytes F w bv b) :
    Calls Try.prog 20 #[bv] w fun e w' => e = .returned (.int .u64 (sumOf b)) ∧ Below w.heap.size w w' := by
  obtain ⟨a, c, rfl⟩ := Raw.slice hB
  have HB := Lib.hid hB; clear hB
  go_enter Try.func20, Try.ntmps20
  go_wp2_with fail
  refine (from_any _ b _ _ hn HB.out).mono ?_
  rintro e w' ⟨rfl, rfl⟩
  go_wp2_with fail
  refine (eight_any _ _ hn).mono ?_
  rintro e w1 ⟨v, rfl, hown, hb⟩
  have HE := Lib.hid (Bytes.of_own (F := []) hown rfl)
  clear hown
  go_wp2_with fail
  refine (from_any _ _ _ _ (by simp [eb]) HE.out).mono ?_
  rintro e w' ⟨rfl, rfl⟩
  go_wp2
  go_ret
  exact ⟨rfl, hb⟩
theorem rof_any {F : List Nat} (bv : Value) (b : List UInt8) (w : World) (hn : b.length ≤ 1000000) (hB : Bytes F w bv b) :
    Calls Try.prog 58 #[bv] w fun e w' => e = .returned (.int .u64 (sumOf b)) ∧ Below w.heap.size w w' := by
  obtain ⟨a, c, rfl⟩ := Raw.slice hB
  have HB := Lib.hid hB; clear hB
  go_enter Try.func58, Try.ntmps58
  go_wp2_with fail
  refine (rfrom_any _ b _ _ hn HB.out).mono ?_
  rintro e w' ⟨rfl, rfl⟩
  go_wp2_with fail
  refine (reight_any _ _ hn).mono ?_
  rintro e w1 ⟨v, rfl, hown, hb⟩
  have HE := Lib.hid (Bytes.of_own (F := []) hown rfl)
  clear hown
  go_wp2_with fail
  refine (rfrom_any _ _ _ _ (by simp [eb]) HE.out).mono ?_
  rintro e w' ⟨rfl, rfl⟩
  go_wp2
  go_ret
  exact ⟨rfl, hb⟩
end Go.Proofs.Ytnbngidelpodkaa
