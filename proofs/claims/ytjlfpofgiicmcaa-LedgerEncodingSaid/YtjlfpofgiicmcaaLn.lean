/- Ledger: Decode and the reference's Decode -/
import Derived.Test.YtjlfpofgiicmcaaLf
import Derived.Test.YtjlfpofgiicmcaaWk
namespace Go.Lg
open Go Go.RowKit Go.Bs Go.Cl Go.Rw Go.Wi
def decN (b : List UInt8) : Nat → Nat × Bool → List Lt → List Lt × Nat × Bool
  | 0, s, acc => (acc, s)
  | n + 1, s, acc => decN b n (rI b (rI b s).2).2 (acc ++ [⟨(rI b s).1, (rI b (rI b s).2).1⟩])
theorem decN_succ (b : List UInt8) (n : Nat) (s : Nat × Bool) (acc : List Lt) : decN b (n + 1) s acc = decN b n (rI b (rI b s).2).2 (acc ++ [⟨(rI b s).1, (rI b (rI b s).2).1⟩]) := rfl
/-- the ledger with an encoding, or nothing, and the error -/
def decL (b : List UInt8) : List Lt × Int :=
  let r := decN b (rB b 0 32 (0, false)).1.toNat (rB b 0 32 (0, false)).2 []
  if decide (rEnd b r.2 = 0) && validL r.1 then (r.1, 0) else ([], 4)
def RetD (r : List Lt × Int) (w : World) (e : Ending) (w' : World) : Prop := ∃ v, e = .returned (.tuple #[v, .int .i64 r.2]) ∧ SlL w' v r.1 ∧ Below w.heap.size w w'
theorem rEnd_cases (b : List UInt8) (s : Nat × Bool) : rEnd b s = 0 ∨ rEnd b s = 4 := by
  unfold rEnd
  split
  · exact .inr rfl
  · exact .inl rfl
end Go.Lg
namespace Go.Proofs.Ytjlfpofgiicmcaa
open Go.RowKit Go.Bs Go.Cl Go.Rw Go.Lg Go.Wi
set_option maxRecDepth 100000 in
set_option maxHeartbeats 2000000 in
theorem decode_any (bv : Value) (b : List UInt8) (w : World) (hB : Bytes [] w bv b) (hbl : b.length ≤ 1000000) :
    Calls Try.prog 19 #[bv] w (RetD (decL b) w) := by
  obtain ⟨ba, bc, rfl⟩ := Raw.slice hB
  have HB := Lib.hid hB; clear hB
  obtain ⟨rv0, hr0⟩ : ∃ r, rB b 0 32 (0, false) = r := ⟨_, rfl⟩
  have hbd := rB_bound b (lo := 0) (hi := 32) (by omega) (by omega) (0, false)
  have hdec : decL b = (if decide (rEnd b (decN b rv0.1.toNat rv0.2 []).2 = 0) && validL (decN b rv0.1.toNat rv0.2 []).1 then ((decN b rv0.1.toNat rv0.2 []).1, 0) else ([], 4)) := by unfold decL; rw [hr0]
  have Hdec := Lib.hid hdec; clear hdec
  rw [hr0] at hbd
  obtain ⟨nI, s0⟩ := rv0
  simp only at hbd Hdec
  obtain ⟨n, rfl⟩ : ∃ n : Nat, nI = n := ⟨nI.toNat, by omega⟩
  rw [Int.toNat_natCast] at Hdec
  have Hr0 := Lib.hid hr0; clear hr0
  have hn32 : n ≤ 32 := by omega
  clear hbd
  go_enter Try.func19, Try.ntmps19
  go_wp2_with fail
  refine (wread_any _ b _ HB.out hbl).mono ?_
  rintro e w1 ⟨g, rv, rfl, hrd, hg, hb1⟩
  have Hrd := Lib.hid hrd; clear hrd
  go_wp2_with fail
  refine (wBounded_any g rv b 0 false 0 32 _ Hrd.out hbl).mono ?_
  rw [Hr0.out]
  rintro e w2 ⟨rfl, hR2⟩
  have hbel2 := RdR.low hR2 hg hb1.size hb1
  have HO := Lib.hid (RdO.start (enc := encL) (k := 2) (e := 55) (base := w.heap.size) hR2.1)
  clear hR2 hb1
  go_wp2
  go_loopw [5, 11] (fun ov i wr => ∃ (k : Nat) (s : Nat × Bool) (acc : List Lt), k ≤ n ∧ i = .int .i64 k ∧ acc.length = k ∧ decN b (n - k) s acc = decN b n s0 [] ∧ RdO encL 2 75 55 wr w.heap.size g rv b s ov acc ∧ Below w.heap.size w wr) (fun _ i _ => n - (intOf i).toNat)
  case atStart => exact ⟨0, s0, [], Nat.zero_le _, rfl, rfl, rfl, HO.out, hbel2⟩
  case round =>
    clear HO hbel2
    obtain ⟨k, s, acc, hk, rfl, hacc, hdk, hO, hbel⟩ := hrel
    obtain ⟨oa, oc, rfl⟩ := own_slice hO.row
    have HO := Lib.hid hO; clear hO
    have Hdk := Lib.hid hdk; clear hdk
    have hsz := hbel.size
    have Hacc := Lib.hid hacc; clear hacc
    by_cases hlt : k < n
    · obtain ⟨r1, hr1⟩ : ∃ r, rI b s = r := ⟨_, rfl⟩
      obtain ⟨t, s1⟩ := r1
      obtain ⟨r2, hr2⟩ : ∃ r, rI b s1 = r := ⟨_, rfl⟩
      obtain ⟨q, s2⟩ := r2
      have hd2 : decN b (n - (k + 1)) s2 (acc ++ [⟨t, q⟩]) = decN b n s0 [] := by
        have := Hdk.out
        rw [show n - k = (n - (k + 1)) + 1 by omega] at this
        rw [decN_succ, hr1] at this
        simp only at this
        rw [hr2] at this
        exact this
      have Hd2 := Lib.hid hd2; clear hd2
      have Hr1 := Lib.hid hr1; have Hr2 := Lib.hid hr2; clear hr1 hr2
      have hlt' : (k : Int) < n := by omega
      go_wp2_with fail
      refine (wInt_any g rv b s.1 s.2 _ HO.out.rd hbl).mono ?_
      rw [show ((s.1, s.2) : Nat × Bool) = s from rfl, Hr1.out]
      rintro e w3 ⟨rfl, hR3⟩
      have hbel3 := RdR.low hR3 hg hsz hbel
      have hO3 := HO.out.read hR3
      have hgl := hO3.rd.lt
      have hal3 := (Below.refl w3.heap.size w3).alloc (Nat.le_refl _) (.cells #[.int .i64 t, .int .i64 0] 55)
      have hO4 := hO3.below hal3
      have hbel4 := hbel3.trans (hal3.mono hbel3.size)
      have hB4 := Raw.below (hO3.apart (Nat.le_refl _)) hal3
      have hrw := hO3.rows (Nat.le_refl _)
      have HO4 := Lib.hid hO4
      have Hrw := Lib.hid hrw
      have HB4 := Lib.hid hB4
      clear hR3 hO3 hal3 hO4 hrw hB4
      simp only
      go_wp2_with fail
      refine (wInt_any g rv b s1.1 s1.2 _ HO4.out.rd hbl).mono ?_
      rw [show ((s1.1, s1.2) : Nat × Bool) = s1 from rfl, Hr2.out]
      rintro e w5 ⟨rfl, hR5⟩
      have hbel5 := RdR.low hR5 hg hbel4.size hbel4
      have hO5 := HO4.out.read hR5
      have hne : w3.heap.size ≠ g := by omega
      have hblk : w5.heap[w3.heap.size]? = some (.cells #[.int .i64 t, .int .i64 0] 55 (0, 0)) := (hR5.2.block _ (by simp) (by simpa using hne)).trans (heap_alloc_new w3 _)
      have c0 : w5.cell? ⟨w3.heap.size, 0, none⟩ = some (.int .i64 t) := box_at hblk rfl
      have c1 : w5.cell? ⟨w3.heap.size, 1, none⟩ = some (.int .i64 0) := box_at hblk rfl
      have f1 := box_free hblk 1
      have f0 := box_free hblk 0
      have hs5 : w3.heap.size < w5.heap.size := by have := hR5.2.size; simp at this; omega
      have hB5 := bytes_read HO4.out.rd HB4.out hR5
      have hk6 : Keep [w3.heap.size] w5 (w5.setCell ⟨w3.heap.size, 1, none⟩ (.int .i64 q)) := (Keep.refl [w3.heap.size] w5).setCell (by simp) _
      have hO6 := hO5.set hB5 Hrw.out hne hk6
      have hblk6 : (w5.setCell ⟨w3.heap.size, 1, none⟩ (.int .i64 q)).heap[w3.heap.size]? = some (.cells #[.int .i64 t, .int .i64 q] 55 (0, 0)) := by
        simp only [World.setCell, Array.getElem?_modify]; simp [hblk]
      have hbel6 : Below w.heap.size w (w5.setCell ⟨w3.heap.size, 1, none⟩ (.int .i64 q)) := hbel5.setCell (p := ⟨w3.heap.size, 1, none⟩) hbel3.size _
      have e6 : (w5.setCell ⟨w3.heap.size, 1, none⟩ (.int .i64 q)).heap.size = w5.heap.size := by simp [World.setCell]
      have hal6 := (Below.refl _ (w5.setCell ⟨w3.heap.size, 1, none⟩ (.int .i64 q))).alloc (Nat.le_refl _) (.cells #[.int .i64 t, .int .i64 q] 55)
      have hO7 := hO6.below hal6
      have hbel7 : Below w.heap.size w ((w5.setCell ⟨w3.heap.size, 1, none⟩ (.int .i64 q)).alloc (.cells #[.int .i64 t, .int .i64 q] 55)) := hbel6.trans (hal6.mono hbel6.size)
      have hx7 : ((w5.setCell ⟨w3.heap.size, 1, none⟩ (.int .i64 q)).alloc (.cells #[.int .i64 t, .int .i64 q] 55)).heap[w5.heap.size]? = some (.cells #[.int .i64 t, .int .i64 q] 55 (0, 0)) := by
        rw [← e6]; exact heap_alloc_new _ _
      have HX7 := Lib.hid (box2 w5.heap.size ⟨t, q⟩ hx7)
      have HO7 := Lib.hid hO7
      have hsz7 : w.heap.size ≤ ((w5.setCell ⟨w3.heap.size, 1, none⟩ (.int .i64 q)).alloc (.cells #[.int .i64 t, .int .i64 q] 55)).heap.size := hbel7.size
      clear hR5 hO5 hB5 hk6 hO6 hblk6 hblk hal6 hO7 hx7 e6 hbel6
      simp only
      go_wp2_with (at_builtin; refine wpList_appF el25 Try.underlying25 HO7.out.row HX7.out hbel7 rfl _ _ rfl rfl rfl ?c3 ?cB ?c5 ?_)
      case c3 => have := Hacc.out; omega
      case c5 => simpa [World.setCell] using hsz7
      intro v8 w8 hown8 hbel8 hk8 hn8
      have HO8 := Lib.hid (HO7.out.push (x := ⟨t, q⟩) hown8 hk8 (by simpa [World.setCell] using hn8))
      obtain ⟨a8, c8, rfl⟩ := own_slice hown8
      clear hown8 hk8 hn8
      go_wp2
      go_roundw
      case rel => exact ⟨k + 1, s2, _, hlt, by go_num, by have := Hacc.out; simp; omega, Hd2.out, HO8.out, hbel8⟩
      case measure => simp [intOf]; omega
    · obtain rfl : k = n := by omega
      have hfin := Hdk.out
      rw [Nat.sub_self] at hfin
      have hfin : decN b k s0 [] = (acc, s) := hfin.symm
      rw [hfin] at Hdec
      have HS := Lib.hid (SlL.of_own HO.out.row)
      have hacc3 := Hacc.out
      have hacc6 : acc.length ≤ 1000000 := by omega
      clear hfin hacc3
      go_wp2_with fail
      refine (wend_any g rv b s.1 s.2 _ HO.out.rd hbl).mono ?_
      rintro e w3 ⟨rfl, hb3⟩
      have hbel3 := hbel.trans (hb3.mono hsz)
      have HS3 := Lib.hid (HS.out.below hb3)
      clear hb3
      rw [show ((s.1, s.2) : Nat × Bool) = s from rfl]
      rcases rEnd_cases b s with hre | hre
      · rw [hre] at Hdec ⊢
        go_wp2_with fail
        refine (valid_any _ acc _ hacc6 HS3.out).mono ?_
        rintro e w4 ⟨rfl, hb4⟩
        have hbel4 := hbel3.trans (hb4.mono hbel3.size)
        have HS4 := Lib.hid (HS3.out.below hb4)
        clear hb4
        cases hv : validL acc
        · rw [hv] at Hdec
          have Hd : Hid (decL b = ([], 4)) := Lib.hid (by rw [Hdec.out]; rfl)
          clear hv
          go_wp2
          go_ret2
          rw [Hd.out]
          exact ⟨_, rfl, Raw.empty _ _ _, hbel4⟩
        · rw [hv] at Hdec
          have Hd : Hid (decL b = (acc, 0)) := Lib.hid (by rw [Hdec.out]; rfl)
          clear hv
          go_wp2
          go_ret2
          rw [Hd.out]
          exact ⟨_, rfl, HS4.out, hbel4⟩
      · rw [hre] at Hdec ⊢
        have Hd : Hid (decL b = ([], 4)) := Lib.hid (by rw [Hdec.out]; rfl)
        go_wp2
        go_ret2
        rw [Hd.out]
        exact ⟨_, rfl, Raw.empty _ _ _, hbel3⟩
end Go.Proofs.Ytjlfpofgiicmcaa
