/- fault: Hits, Change -/
import Derived.Test.YtbpifaamlcjocaaFc
import Derived.Laws.Bits64
namespace Go.Fa
open Go Go.RowKit Go.Bs Go.Cl Go.Rw
def FP.hits (p : FP) (c n a : Int) : Bool := p.ok && (decide (p.k ≠ 0) && (decide (p.c = c) && (decide (p.n = n) && decide (a = 1))))
/-- a byte of a string changed -/
def chg (b : List UInt8) (pl m : Int) : List UInt8 := if 0 < b.length ∧ 0 ≤ pl then b.modify (pl.toNat % b.length) (fun x => x ^^^ UInt8.ofNat (m % 256).toNat) else b
theorem xor_u8 (x : UInt8) (m : Int) : bits BinOp.xor IntKind.u8 (x.toNat : Int) (m % 256) = ((x ^^^ UInt8.ofNat (m % 256).toNat).toNat : Nat) := by
  obtain ⟨n, hn, hl⟩ : ∃ n : Nat, m % 256 = n ∧ n < 256 := ⟨(m % 256).toNat, by omega, by omega⟩
  rw [hn]
  have hx : x.toNat < 256 := UInt8.toNat_lt x
  have e1 : ((n : Int)).toNat = n := by omega
  rw [e1]
  have e2 : (UInt8.ofNat n).toNat = n := by rw [UInt8.toNat_ofNat']; omega
  rw [UInt8.toNat_xor, e2]
  have hx2 : x.toNat ^^^ n < 2 ^ 8 := Nat.xor_lt_two_pow hx hl
  have h1 : (BitVec.ofInt 8 (x.toNat : Int)).toNat = x.toNat := by
    rw [BitVec.ofInt_natCast, BitVec.toNat_ofNat]; exact Nat.mod_eq_of_lt (by omega)
  have h2 : (BitVec.ofInt 8 (n : Int)).toNat = n := by
    rw [BitVec.ofInt_natCast, BitVec.toNat_ofNat]; exact Nat.mod_eq_of_lt (by omega)
  show IntKind.u8.wrap ((BitVec.ofInt 8 (x.toNat : Int) ^^^ BitVec.ofInt 8 (n : Int)).toNat : Int) = _
  rw [BitVec.toNat_xor, h1, h2]
  simp only [IntKind.wrap, IntKind.bits, IntKind.signed]
  simp
  omega
theorem chg_len (b : List UInt8) (pl m : Int) : (chg b pl m).length = b.length := by unfold chg; split <;> simp
end Go.Fa
namespace Go.Proofs.Ytbpifaamlcjocaa
open Go.RowKit Go.Bs Go.Cl Go.Rw Go.Un Go.Im Go.Fa
set_option maxRecDepth 100000 in
set_option maxHeartbeats 4000000 in
theorem change_any (F : List Nat) (v : Value) (b : List UInt8) (pl m : Int) (w : World) (hl : b.length ≤ 24000) (hB : Bytes F w v b) :
    Calls Try.prog 39 #[v, .int .i64 pl, .int .i64 m] w fun e w' => ∃ x, e = .returned x ∧ w'.ownsRow w.heap.size 5 1 x b.length (bytesV (chg b pl m)) ∧ Below w.heap.size w w' := by
  have HB := Lib.hid hB
  obtain ⟨ba, bc, rfl⟩ := Raw.slice hB
  clear hB
  go_enter Try.func39, Try.ntmps39
  go_wp2_with fail
  refine (clone33 _ (by omega) HB.out).mono ?_
  rintro e w1 ⟨v1, rfl, hown, hb⟩
  rcases own_cases hown with ⟨rfl, hn, hx⟩ | ⟨g, cap, rfl, hg, hgl, hnc⟩
  · have h0 : b = [] := List.length_eq_zero_iff.1 hn
    subst h0
    have HO := Lib.hid hown; have HB1 := Lib.hid hb
    clear hown hb
    go_wp2
    go_ret
    exact ⟨_, rfl, by simpa [chg] using HO.out, HB1.out⟩
  · have HO := Lib.hid hown; have HB1 := Lib.hid hb
    clear hown hb
    by_cases hn0 : b.length = 0
    · have h0 : b = [] := List.length_eq_zero_iff.1 hn0
      subst h0
      go_wp2
      go_ret
      exact ⟨_, rfl, by simpa [chg] using HO.out, HB1.out⟩
    · have hn1 : 0 < b.length := by omega
      obtain ⟨n, hn⟩ : ∃ n : Int, n = b.length := ⟨_, rfl⟩
      by_cases hp : 0 ≤ pl
      · have hj0 : 0 ≤ pl % (b.length : Int) := Int.emod_nonneg _ (by omega)
        have hj1 : pl % (b.length : Int) < b.length := Int.emod_lt_of_pos _ (by omega)
        obtain ⟨j, hj⟩ : ∃ j : Nat, pl % (b.length : Int) = j := ⟨_, (Int.toNat_of_nonneg hj0).symm⟩
        have hjl : j < b.length := by omega
        have hjt : (pl % (b.length : Int)).toNat = j := by omega
        have hjm : pl.toNat % b.length = j := by
          have h1 : ((pl.toNat % b.length : Nat) : Int) = pl % (b.length : Int) := by
            rw [Int.natCast_emod, Int.toNat_of_nonneg hp]
          omega
        have hx : (bytesV b)[j]? = some (byteV (b[j]'hjl)) := by unfold bytesV; rw [List.getElem?_map, List.getElem?_eq_getElem hjl]; rfl
        have cj := own_cell HO.out rfl hx
        have fj := own_frozen HO.out j
        obtain ⟨x0, hx0⟩ : ∃ x0, x0 = b[j]'hjl := ⟨_, rfl⟩
        rw [← hx0] at cj
        unfold byteV at cj
        go_wp2
        go_ret
        refine ⟨_, rfl, ?_, HB1.out.setCell hg _⟩
        have hs := own_set HO.out (j := j) (u := .int .u8 (bits BinOp.xor IntKind.u8 (↑(b[j]'hjl).toNat) (m % 256))) (by simp [bytesV]; exact hjl)
        rw [xor_u8] at hs
        have he : bytesV (chg b pl m) = (bytesV b).set j (.int .u8 ((b[j]'hjl ^^^ UInt8.ofNat (m % 256).toNat).toNat : Nat)) := by
          rw [show chg b pl m = b.modify (pl.toNat % b.length) (fun x => x ^^^ UInt8.ofNat (m % 256).toNat) from if_pos ⟨hn1, hp⟩, hjm]
          unfold bytesV
          apply List.ext_getElem?
          intro i
          rw [List.getElem?_map, List.getElem?_modify, List.getElem?_set, List.getElem?_map, List.length_map]
          by_cases hi : j = i
          · subst hi
            rw [List.getElem?_eq_getElem hjl, if_pos rfl, if_pos hjl]
            simp [byteV]
          · rw [if_neg hi]
            simp [hi]
        rw [he, ← xor_u8]
        rw [← xor_u8] at hs
        exact hs
      · go_wp2
        go_ret
        refine ⟨_, rfl, ?_, HB1.out⟩
        show World.ownsRow _ _ _ _ (.slice (some ⟨g, 0, none⟩) b.length cap) _ _
        exact (by rw [show chg b pl m = b from if_neg (fun h => absurd h.2 (by omega))]; exact HO.out)
end Go.Proofs.Ytbpifaamlcjocaa
