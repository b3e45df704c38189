/- Ledger: walks: BinarySearchFunc, See -/
import Derived.Test.YtjlfpofgiicmcaaLb
namespace Go.Proofs.Ytjlfpofgiicmcaa
open Go.RowKit Go.Bs Go.Cl Go.Rw Go.Lg

theorem see1_eq (x : Lt) (t r : Int) (w : World) (h : cmpI x.t t = r) : Calls Try.prog 26 #[.agg #[.int .i64 x.t, .int .i64 x.q], .int .i64 t] w fun e w' => e = .returned (.int .i64 r) ∧ Below w.heap.size w w' := h ▸ see1_any x.t x.q t w

def BsP (l : List Lt) (t : Int) (w : World) (e : Ending) (w' : World) : Prop :=
  ∃ i : Nat, i ≤ l.length ∧ (∀ k, k < i → (ltAt l k).t < t) ∧ (∀ k, i ≤ k → k < l.length → t ≤ (ltAt l k).t) ∧ e = .returned (.tuple #[.int .i64 i, .bool (decide (i < l.length) && decide ((ltAt l i).t = t))]) ∧ Below w.heap.size w w'

set_option maxRecDepth 100000 in
set_option maxHeartbeats 1000000 in
theorem bsearch_any (v : Value) (l : List Lt) (t : Int) (w : World) (hl : l.length ≤ 1000000) (h : SlL w v l) (hs : Srt l) :
    Calls Try.prog 25 #[v, .int .i64 t, .func (.func 26) #[] #[]] w (BsP l t w) := by
  obtain ⟨a, cap, rfl⟩ := Raw.slice h
  have H := Lib.hid h; clear h
  have Hs := Lib.hid hs; clear hs
  go_enter Try.func25, Try.ntmps25
  go_wp2
  go_loopw [9, 10] (fun ii jj wr => ∃ i j : Nat, i ≤ j ∧ j ≤ l.length ∧ ii = .int .i64 i ∧ jj = .int .i64 j ∧ Below w.heap.size w wr ∧ (∀ k, k < i → (ltAt l k).t < t) ∧ (∀ k, j ≤ k → k < l.length → t ≤ (ltAt l k).t)) (fun ii jj _ => (intOf jj).toNat - (intOf ii).toNat)
  case atStart => exact ⟨0, l.length, Nat.zero_le _, Nat.le_refl _, rfl, rfl, Below.refl _ _, fun k hk => by omega, fun k hk hk' => by omega⟩
  case round =>
    obtain ⟨i, j, hij, hj, rfl, rfl, hbel, hlo, hhi⟩ := hrel
    have Hlo := Lib.hid hlo; clear hlo
    have Hhi := Lib.hid hhi; clear hhi
    have hsz := hbel.size
    by_cases hlt : i < j
    · obtain ⟨m, hm⟩ : ∃ m : Nat, ((i : Int) + j) / 2 = m := ⟨(i + j) / 2, by omega⟩
      have hmi : i ≤ m := by omega
      have hmj : m < j := by omega
      have hml : m < l.length := by omega
      obtain ⟨b, off, rfl, hb, h0, h1⟩ := (H.out.below hbel).elem hml
      have hm1 : (m : Int) < (l.length : Int) := by omega
      have hsrt : ∀ k, k ≤ m → (ltAt l k).t ≤ (ltAt l m).t := fun k hk => by
        by_cases e : k = m
        · rw [e]; exact Int.le_refl _
        · have := srt_at Hs.out (show k < m by omega) hml; omega
      have hsrt2 : ∀ k, m ≤ k → k < l.length → (ltAt l m).t ≤ (ltAt l k).t := fun k hk hk2 => by
        by_cases e : k = m
        · rw [e]; exact Int.le_refl _
        · have := srt_at Hs.out (show m < k by omega) hk2; omega
      have Hs1 := Lib.hid hsrt
      have Hs2 := Lib.hid hsrt2
      clear hsrt hsrt2
      by_cases hc : (ltAt l m).t < t
      · have Hc := Lib.hid (show cmpI (ltAt l m).t t = -1 by simp [cmpI, hc])
        have Hlt := Lib.hid hc; clear hc
        go_wp2_with fail
        refine (see1_eq _ _ _ _ Hc.out).mono ?_
        rintro e w1 ⟨rfl, hb1⟩
        have hfin := hbel.trans (hb1.mono hsz)
        go_wp2
        go_roundw
        case rel => exact ⟨m + 1, j, by omega, hj, by go_num, rfl, hfin, fun k hk => by have := Hs1.out k (by omega); have := Hlt.out; omega, Hhi.out⟩
        case measure => simp [intOf]; omega
      · have hc1 : 0 ≤ cmpI (ltAt l m).t t := by unfold cmpI; split; · omega
                                                 · split <;> omega
        obtain ⟨c, hcc⟩ : ∃ c, cmpI (ltAt l m).t t = c := ⟨_, rfl⟩
        rw [hcc] at hc1
        have Hc := Lib.hid hcc; clear hcc
        have Hlt := Lib.hid hc; clear hc
        go_wp2_with fail
        refine (see1_eq _ _ _ _ Hc.out).mono ?_
        rintro e w1 ⟨rfl, hb1⟩
        have hfin := hbel.trans (hb1.mono hsz)
        go_wp2
        go_roundw
        case rel => exact ⟨i, m, by omega, by omega, rfl, rfl, hfin, Hlo.out, fun k hk hk2 => by have := Hs2.out k hk hk2; have := Hlt.out; omega⟩
        case measure => simp [intOf]; omega
    · obtain rfl : i = j := by omega
      by_cases hin : i < l.length
      · obtain ⟨b, off, rfl, hb, h0, h1⟩ := (H.out.below hbel).elem hin
        have hi1 : (i : Int) < (l.length : Int) := by omega
        obtain ⟨c, hcc⟩ : ∃ c, cmpI (ltAt l i).t t = c := ⟨_, rfl⟩
        have hcz : (c = 0) = ((ltAt l i).t = t) := by
          rw [← hcc]; unfold cmpI
          apply propext
          split
          · omega
          · split <;> omega
        have Hcz := Lib.hid hcz
        have Hc := Lib.hid hcc
        clear hcc hcz
        go_wp2_with fail
        refine (see1_eq _ _ _ _ Hc.out).mono ?_
        rintro e w1 ⟨rfl, hb1⟩
        have hfin := hbel.trans (hb1.mono hsz)
        go_wp2
        go_ret2
        refine ⟨i, hj, Hlo.out, Hhi.out, ?_, hfin⟩
        congr 1
        have hz := Hcz.out
        have : (c == 0) = decide ((ltAt l i).t = t) := by rw [Bool.eq_iff_iff]; simp [← hz]
        simp [hin, this]
      · go_wp2
        go_ret2
        exact ⟨i, hj, Hlo.out, Hhi.out, by simp [hin], hbel⟩
end Go.Proofs.Ytjlfpofgiicmcaa
