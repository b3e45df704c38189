/- Images: pages -/
import Derived.Test.YtnbngidelpodkaaUs
import Derived.Test.YtnbngidelpodkaaZs
namespace Go.Im
open Go Go.RowKit Go.Bs Go.Cl Go.Rw
def cnt (n : Nat) : Nat := (n + 127) / 128
def sz (n k : Nat) : Nat := min 128 (n - k * 128)
def pg (b : List UInt8) (k : Nat) : List UInt8 := (b.drop (k * 128)).take 128
theorem pg_len (b : List UInt8) (k : Nat) : (pg b k).length = sz b.length k := by simp [pg, sz]
theorem pg_mid (b : List UInt8) (k : Nat) : (b.take (k * 128 + sz b.length k)).drop (k * 128) = pg b k := by
  unfold pg
  rw [List.drop_take, Nat.add_sub_cancel_left]
  unfold sz
  rcases Nat.le_total 128 (b.length - k * 128) with h | h
  · rw [Nat.min_eq_left h]
  · rw [Nat.min_eq_right h, List.take_of_length_le (by simp), List.take_of_length_le (by simp; omega)]
theorem sz_zero {n k : Nat} : sz n k = 0 ↔ cnt n ≤ k := by unfold sz cnt; omega
theorem sz_pos {n k : Nat} (h : k < cnt n) : 0 < sz n k ∧ k * 128 + sz n k ≤ n := by unfold sz; unfold cnt at h; omega
end Go.Im
namespace Go.Proofs.Ytnbngidelpodkaa
open Go.RowKit Go.Bs Go.Cl Go.Rw Go.Un Go.Im
theorem count_any (n : Nat) (w : World) (hn : n ≤ 1000000) : Calls Try.prog 14 #[.int .i64 n] w fun e w' => e = .returned (.int .i64 (cnt n)) ∧ w = w' := by
  by_cases h0 : n = 0
  · subst h0
    go_enter Try.func14, Try.ntmps14
    go_wp2
    go_ret
    exact ⟨rfl, rfl⟩
  · have h1 : 0 < n := by omega
    have h2 : ¬ (n : Int) ≤ 0 := by omega
    clear h0
    go_enter Try.func14, Try.ntmps14
    go_wp2
    go_ret
    exact ⟨ret_int (by unfold cnt; omega), rfl⟩
set_option maxHeartbeats 1000000 in
theorem size_any (n k : Nat) (w : World) (hn : n ≤ 1000000) (hk : k ≤ 1000000) : Calls Try.prog 38 #[.int .i64 n, .int .i64 k] w fun e w' => e = .returned (.int .i64 (sz n k)) ∧ w = w' := by
  have hk0 : ¬ (k : Int) < 0 := by omega
  by_cases hc : k < cnt n
  · have hc' : ¬ cnt n ≤ k := by omega
    have hp := sz_pos hc
    have hs : (sz n k : Int) = if (n : Int) - k * 128 < 128 then (n : Int) - k * 128 else 128 := by unfold sz; split <;> omega
    have Hs := Lib.hid hs
    have hkn : (k : Int) * 128 ≤ n := by omega
    clear hp hs
    by_cases hm : (n : Int) - k * 128 < 128
    all_goals
      go_enter Try.func38, Try.ntmps38
      go_wp2_with (go_at_call 14; refine (count_any _ _ hn).mono ?_; rintro e w' ⟨rfl, rfl⟩)
      go_ret
      exact ⟨ret_int (by rw [Hs.out]; first | rw [if_pos hm] | rw [if_neg (by omega)]), rfl⟩
  · have hz : sz n k = 0 := sz_zero.2 (by omega)
    have hc' : cnt n ≤ k := by omega
    rw [hz]; clear hz hc
    go_enter Try.func38, Try.ntmps38
    go_wp2_with (go_at_call 14; refine (count_any _ _ hn).mono ?_; rintro e w' ⟨rfl, rfl⟩)
    go_ret
    exact ⟨rfl, rfl⟩
set_option maxHeartbeats 1000000 in
theorem page_any {F : List Nat} (bv : Value) (b : List UInt8) (k : Nat) (w : World) (hn : b.length ≤ 1000000) (hk : k ≤ 1000000) (hB : Bytes F w bv b) :
    Calls Try.prog 15 #[bv, .int .i64 k] w fun e w' => ∃ v, e = .returned v ∧ Bytes (old w) w' v (pg b k) ∧ Below w.heap.size w w' := by
  obtain ⟨a, c, rfl⟩ := Raw.slice hB
  have hl := pg_len b k
  by_cases hc : k < cnt b.length
  · obtain ⟨hp, hs⟩ := sz_pos hc
    obtain ⟨ta, hsl, hT⟩ := Raw.mid hB Try.underlying22 (show (Try.prog.info? 5).map (·.size) = some 1 by kernel_rfl) (lo := k * 128) (hi := k * 128 + sz b.length k) (by omega) hs
    rw [Nat.mul_one, Nat.mul_one, bytesV_take, bytesV_drop, pg_mid, Nat.add_sub_cancel_left] at hT
    rw [Nat.add_sub_cancel_left] at hsl
    obtain ⟨m, hm⟩ : ∃ m, m = sz b.length k := ⟨_, rfl⟩
    rw [← hm] at hT hsl hp hs hl
    have hml : m ≤ 1000000 := by omega
    have hsl : ∀ wx, (Instr.slice 22 (.slice a b.length c) (some (.int .i64 ((k : Int) * 128))) (some (.int .i64 ((k : Int) * 128 + m))) none).run Try.prog wx = .ok (.slice ta m (c - k * 128)) wx := fun wx => by
      have := hsl wx; rw [Int.natCast_add, Int.natCast_mul] at this; exact this
    have hne : (m == 0) = false := by simp; omega
    have hne' : ((m : Int) == 0) = false := by simp; omega
    have HT := Lib.hid hT; have Hl := Lib.hid hl; have Hm := Lib.hid hm
    have hkb : (k : Int) * 128 + m ≤ b.length := by omega
    clear hT hl hB hc hm
    go_enter Try.func15, Try.ntmps15
    go_wp2_with fail
    refine (size_any _ _ _ hn hk).mono ?_
    rw [← Hm.out]
    rintro e w' ⟨rfl, rfl⟩
    go_wp2_with fail
    refine (clone33 _ hml HT.out).mono ?_
    rintro e w1 ⟨v1, rfl, hown, hb⟩
    have hB1 : Bytes (old w) w1 v1 (pg b k) := Bytes.row hown Hl.out.symm old_lt
    have HB1 := Lib.hid hB1
    clear hown hB1
    go_wp2
    go_ret
    exact ⟨_, rfl, HB1.out, hb⟩
  · have hz : sz b.length k = 0 := sz_zero.2 (by omega)
    have hnil : pg b k = [] := List.eq_nil_of_length_eq_zero (by rw [hl, hz])
    rw [hnil]
    have Hz := Lib.hid hz
    clear hnil hl hB hc hz
    go_enter Try.func15, Try.ntmps15
    go_wp2_with fail
    refine (size_any _ _ _ hn hk).mono ?_
    rw [Hz.out]
    rintro e w' ⟨rfl, rfl⟩
    go_wp2
    go_ret
    exact ⟨_, rfl, Raw.empty _ _ _, Below.refl _ _⟩
theorem strOf_eq (a b : List UInt8) : ((strOf a).toList == (strOf b).toList) = decide (a = b) := by
  have e : ∀ l : List UInt8, (strOf l).toList = l := fun l => ByteArray.toList_mk l
  rw [e, e]
  by_cases h : a = b
  · subst h; simp
  · simp [h]
set_option maxHeartbeats 1000000 in
theorem equal_any {F G : List Nat} (v1 v2 : Value) (a b : List UInt8) (r : Bool) (w : World) (hr : decide (a = b) = r) (h1 : Bytes F w v1 a) (h2 : Bytes G w v2 b) :
    Calls Try.prog 51 #[v1, v2] w fun e w' => e = .returned (.bool r) ∧ w = w' := by
  have k1 := run_str h1 22 5 9 Try.underlying22 Try.underlying5 Try.underlying9
  have k2 := run_str h2 22 5 9 Try.underlying22 Try.underlying5 Try.underlying9
  obtain ⟨a1, c1, rfl⟩ := Raw.slice h1
  obtain ⟨a2, c2, rfl⟩ := Raw.slice h2
  have hs := strOf_eq a b
  rw [hr] at hs
  clear h1 h2 hr
  go_enter Try.func51, Try.ntmps51
  go_wp2
  go_ret
  exact ⟨rfl, rfl⟩
theorem rcount_any (n : Nat) (w : World) (hn : n ≤ 1000000) : Calls Try.prog 56 #[.int .i64 n] w fun e w' => e = .returned (.int .i64 (cnt n)) ∧ w = w' := by
  by_cases h0 : n = 0
  · subst h0
    go_enter Try.func56, Try.ntmps56
    go_wp2
    go_ret
    exact ⟨rfl, rfl⟩
  · have h1 : 0 < n := by omega
    have h2 : ¬ (n : Int) ≤ 0 := by omega
    clear h0
    go_enter Try.func56, Try.ntmps56
    go_wp2
    go_ret
    exact ⟨ret_int (by unfold cnt; omega), rfl⟩
set_option maxHeartbeats 1000000 in
theorem rsize_any (n k : Nat) (w : World) (hn : n ≤ 1000000) (hk : k ≤ 1000000) : Calls Try.prog 61 #[.int .i64 n, .int .i64 k] w fun e w' => e = .returned (.int .i64 (sz n k)) ∧ w = w' := by
  have hk0 : ¬ (k : Int) < 0 := by omega
  have hcl : cnt n ≤ 1000000 := by unfold cnt; omega
  by_cases hc : k < cnt n
  · have hc' : ¬ cnt n ≤ k := by omega
    have hp := sz_pos hc
    have hkn : (k : Int) * 128 ≤ n := by omega
    by_cases hm : (k : Int) = (cnt n : Int) - 1
    · have hs : (sz n k : Int) = (n : Int) - k * 128 := by unfold sz; unfold cnt at hm; omega
      have hm' : ((k : Int) == (cnt n : Int) - 1) = true := by simpa using hm
      have Hs := Lib.hid hs
      clear hp hs hm
      go_enter Try.func61, Try.ntmps61
      go_wp2_with (go_at_call 56; refine (rcount_any _ _ hn).mono ?_; rintro e w' ⟨rfl, rfl⟩)
      go_ret
      exact ⟨ret_int Hs.out.symm, rfl⟩
    · have hs : sz n k = 128 := by unfold sz; unfold cnt at hm hc; omega
      have hm' : ((k : Int) == (cnt n : Int) - 1) = false := by simpa using hm
      rw [hs]
      clear hp hs hm
      go_enter Try.func61, Try.ntmps61
      go_wp2_with (go_at_call 56; refine (rcount_any _ _ hn).mono ?_; rintro e w' ⟨rfl, rfl⟩)
      go_ret
      exact ⟨rfl, rfl⟩
  · have hz : sz n k = 0 := sz_zero.2 (by omega)
    have hc' : cnt n ≤ k := by omega
    rw [hz]; clear hz hc
    go_enter Try.func61, Try.ntmps61
    go_wp2_with (go_at_call 56; refine (rcount_any _ _ hn).mono ?_; rintro e w' ⟨rfl, rfl⟩)
    go_ret
    exact ⟨rfl, rfl⟩
end Go.Proofs.Ytnbngidelpodkaa
