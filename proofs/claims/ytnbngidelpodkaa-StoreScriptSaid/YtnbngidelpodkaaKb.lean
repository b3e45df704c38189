/- Images: changes; the program's Diff -/
import Derived.Test.YtnbngidelpodkaaKa
import Derived.Test.YtnbngidelpodkaaRt
namespace Go.Im
open Go Go.RowKit Go.Bs Go.Cl Go.Rw
/-- the changes among the first k pages -/
def difK (a b : List UInt8) (k : Nat) : List (Nat × List UInt8) := ((List.range k).filter fun i => decide (pg a i ≠ pg b i)).map fun i => (i, pg b i)
def dif (a b : List UInt8) : List (Nat × List UInt8) := difK a b (cnt b.length)
theorem difK_succ (a b : List UInt8) (k : Nat) : difK a b (k + 1) = if pg a k = pg b k then difK a b k else difK a b k ++ [(k, pg b k)] := by
  unfold difK
  rw [List.range_succ, List.filter_append]
  by_cases h : pg a k = pg b k <;> simp [h]
theorem difK_len (a b : List UInt8) (k : Nat) : (difK a b k).length ≤ k := by
  unfold difK; rw [List.length_map]; exact Nat.le_trans (List.length_filter_le _ _) (by simp)
/-- the address of the slice of page k, which has s bytes -/
def pgA (a : Option Addr) (k s : Nat) : Option Addr := if s = 0 then a else a.map fun x => x.add (k * 128 * 1)
/-- the first k places -/
def fr (n k : Nat) : List (Fin n) := (List.finRange n).take k
theorem fr_succ {n k : Nat} (h : k < n) : fr n (k + 1) = fr n k ++ [⟨k, h⟩] := by
  unfold fr
  rw [List.take_succ_eq_append_getElem (by simpa using h)]
  simp
theorem fr_len {n k : Nat} (h : k ≤ n) : (fr n k).length = k := by simp [fr]; omega
theorem fr_all (n : Nat) : fr n n = List.finRange n := by unfold fr; rw [List.take_of_length_le (by simp)]
/-- an element of a row of changes: a page and its bytes -/
def encC (p : (Nat × List UInt8) × Value) : List Value := [.int .i64 p.1.1, p.2]
theorem encC_len (p : (Nat × List UInt8) × Value) : (encC p).length = 2 := rfl
/-- a row of changes of a call's own: T the element's type -/
def ChO (T : TypeId) (w : World) (base : Nat) (v : Value) (l : List (Nat × List UInt8)) : Prop := ∃ cs : List ((Nat × List UInt8) × Value), cs.map (·.1) = l ∧ w.ownsRow base T 2 v cs.length (cs.flatMap encC) ∧ ∀ p ∈ cs, ∃ q : Nat, q = base ∧ Bytes (v.ownBlock.toList ++ List.range base) w p.2 p.1.2
end Go.Im
namespace Go.Proofs.Ytnbngidelpodkaa
open Go.RowKit Go.Bs Go.Cl Go.Rw Go.Un Go.Im
theorem el64 : Rw.Elem Try.prog 64 74 2 32 (.agg #[.int .i64 0, .slice none 0 0]) := ⟨Try.underlying64, by kernel_rfl, rfl, by decide⟩
set_option maxHeartbeats 1000000 in
theorem pages_any (a : Option Addr) (len cap : Nat) (w : World) :
    Calls Try.prog 50 #[.slice a len cap] w fun e w' => e = .returned (.func (.func 59) #[] #[.pointer (some ⟨w.heap.size, 0, none⟩)]) ∧ w' = w.alloc (.cells #[.slice a len cap] 22) := by
  go_enter Try.func50, Try.ntmps50
  go_wp2
  go_ret
  exact ⟨rfl, rfl⟩
theorem pg_slice {b : List UInt8} {F : List Nat} {a : Option Addr} {cap k : Nat} {w : World} (h : Bytes F w (.slice a b.length cap) b) (hk : k < cnt b.length) :
    Bytes F w (.slice (pgA a k (sz b.length k)) (sz b.length k) (sz b.length k)) (pg b k) ∧ ∀ wx, (Instr.slice 22 (.slice a b.length cap) (some (.int .i64 ((k : Int) * 128))) (some (.int .i64 ((k : Int) * 128 + (sz b.length k : Nat)))) (some (.int .i64 ((k : Int) * 128 + (sz b.length k : Nat))))).run Try.prog wx = .ok (.slice (pgA a k (sz b.length k)) (sz b.length k) (sz b.length k)) wx := by
  obtain ⟨hp, hs⟩ := sz_pos hk
  have hcap : b.length ≤ cap := by obtain ⟨_, _, _, _, e, hc, _⟩ := h; cases e; exact hc
  have h1 := Raw.sliced (lo := k * 128) (hi := k * 128 + sz b.length k) (m := k * 128 + sz b.length k) h (by omega) hs (Nat.le_refl _) (by omega)
  have he : Go.sliced a (k * 128) (k * 128 + sz b.length k) (k * 128 + sz b.length k) 1 = .slice (pgA a k (sz b.length k)) (sz b.length k) (sz b.length k) := by
    unfold Go.sliced pgA
    rw [Nat.add_sub_cancel_left]
    by_cases h0 : sz b.length k = 0
    · omega
    · rw [if_neg (by omega), if_neg h0]
  rw [he, Nat.mul_one, Nat.mul_one, bytesV_take, bytesV_drop, pg_mid, Nat.add_sub_cancel_left] at h1
  refine ⟨Bytes.mk h1 (pg_len b k).symm, fun wx => ?_⟩
  have hel : Try.prog.elem 22 = 5 := by simp [Program.elem, Try.underlying22]
  have hr := run_slice_lhm (P := Try.prog) wx 22 a b.length cap (by rw [Try.underlying22, hel]) .i64 .i64 .i64 ((k : Int) * 128) ((k : Int) * 128 + (sz b.length k : Nat)) ((k : Int) * 128 + (sz b.length k : Nat)) (by omega) (by omega) (by omega) (by omega)
  rw [hr, hel]
  have e1 : ((k : Int) * 128).toNat = k * 128 := by omega
  have e2 : ((k : Int) * 128 + (sz b.length k : Nat)).toNat = k * 128 + sz b.length k := by omega
  rw [e1, e2]
  cases hi : Try.prog.info? 5 with
  | none => have : (Try.prog.info? 5).map (·.size) = some 1 := by kernel_rfl
            rw [hi] at this; simp at this
  | some i =>
    have : (Try.prog.info? 5).map (·.size) = some 1 := by kernel_rfl
    rw [hi] at this; simp at this
    rw [← he]
    simp [sizeOf, typeInfo, hi, this]
attribute [local go_sem] Oper.semAt_some
set_option maxRecDepth 100000 in
set_option maxHeartbeats 2000000 in
theorem pages1_in (n : Nat) (hn : 1 ≤ n) (l Bs n₀ cap : Nat) (a : Option Addr) (b : List UInt8) (hlen : b.length ≤ 1000000) (w0 : World) {F : List Nat} (hB : Bytes F w0 (.slice a b.length cap) b) (J Jx : List (Fin (cnt b.length)) → World → Prop)
    (hY : ∀ (pre : List (Fin (cnt b.length))) (x : Fin (cnt b.length)) (W : World), J pre W → pre.length < cnt b.length → YieldAt Fence.wide (n - 1) Try.prog l #[.int .i64 ((x.val : Nat) : Int), .slice (pgA a x.val (sz b.length x.val)) (sz b.length x.val) (sz b.length x.val)] W fun e W' =>
      (e = .returned (.bool true) ∧ J (pre ++ [x]) W' ∧ KB n₀ Bs W W') ∨ (e = .returned (.bool false) ∧ Jx (pre ++ [x]) W'))
    (W : World) (hBs : W.cell? ⟨Bs, 0, none⟩ = some (.slice a b.length cap)) (h0 : J [] W) :
    CallsIn Fence.wide n Try.prog 59 #[.func (.yield l) #[] #[], .pointer (some ⟨Bs, 0, none⟩)] W fun e W' => (∃ v, e = .returned v) ∧
      ((∃ ys, ys = List.finRange (cnt b.length) ∧ J ys W') ∨ (∃ pre, True ∧ Jx pre W')) := by
  have hcl : cnt b.length ≤ 1000000 := by unfold cnt; omega
  refine callsIn_of_wp Try.func59 rfl trivial ?_ rfl
  simp only [Try.ntmps59, List.size_toArray, List.length_cons, List.length_nil, Nat.reduceAdd, Nat.reduceSub, Array.replicate_succ, Array.replicate_zero, List.push_toArray, List.append_toArray, List.nil_append, List.cons_append]
  have HB := Lib.hid hB; clear hB
  gi_wp2_with fail
  refine ⟨trivial, ?_⟩
  refine (callsIn_wide.2 (count_any _ _ hlen)).mono ?_
  rintro e w' ⟨rfl, rfl⟩
  gi_wp2
  gi_loopw [9] (fun i wr => ∃ k : Nat, k ≤ cnt b.length ∧ i = .int .i64 k ∧ J (fr (cnt b.length) k) wr ∧ KB n₀ Bs W wr) (fun i _ => cnt b.length - (intOf i).toNat)
  case atStart => exact ⟨0, Nat.zero_le _, rfl, by simpa [fr] using h0, KB.refl _ _ _⟩
  case round =>
    obtain ⟨k, hk, rfl, hJs, hnx⟩ := hrel
    by_cases hlt : k < cnt b.length
    · have hBs' := hnx.2.trans hBs
      obtain ⟨hsp, hsl⟩ := pg_slice HB.out hlt
      obtain ⟨hp, hs⟩ := sz_pos hlt
      obtain ⟨fn, tmps, assign, body, hy, hR⟩ := hY _ ⟨k, hlt⟩ wr hJs (by rw [fr_len hk]; exact hlt)
      have hsucc := fr_succ hlt
      have Hsucc := Lib.hid hsucc
      obtain ⟨m, hm⟩ : ∃ m, m = sz b.length k := ⟨_, rfl⟩
      have hszr := size_any b.length k wr hlen (by omega)
      simp only at hy
      rw [← hm] at hsl hp hs hy hszr
      have Hm := Lib.hid hm
      have HSz := Lib.hid hszr
      have hkb : (k : Int) * 128 + m ≤ b.length := by omega
      clear hsp hsucc hm hszr hBs h0
      gi_wp2_with fail
      refine ⟨trivial, ?_⟩
      refine (callsIn_wide.2 HSz.out).mono ?_
      rintro e w' ⟨rfl, rfl⟩
      gi_wp2
      refine hR.mono ?_
      rintro e W3 (⟨rfl, hJ3, hk3⟩ | ⟨rfl, hJx3⟩)
      · gi_wp2
        go_roundw
        case rel => exact ⟨k + 1, by omega, by go_num, by rw [Hsucc.out]; exact hJ3, hnx.trans hk3⟩
        case measure => simp [intOf]; omega
      · gi_wp2
        refine bodyPost_ret (results_none rfl _ _ _) rfl ?_
        exact ⟨⟨_, rfl⟩, .inr ⟨_, trivial, hJx3⟩⟩
    · obtain rfl : k = cnt b.length := by omega
      gi_wp2
      go_end0
      exact ⟨⟨_, rfl⟩, .inl ⟨_, rfl, by rw [← fr_all]; exact hJs⟩⟩
end Go.Proofs.Ytnbngidelpodkaa
