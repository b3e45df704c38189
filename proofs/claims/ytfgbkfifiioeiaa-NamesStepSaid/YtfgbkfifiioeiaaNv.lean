/- names: the reference's Step -/
import Derived.Test.YtfgbkfifiioeiaaNu
namespace Go.Nm
open Go Go.RowKit Go.Bs Go.Cl Go.Rw Go.Wi
theorem stepN_valid {X l : List Nm} {r : Rp} {ms md mk m0 m1 m2 m3 : Int} {d : List UInt8} (hv : validN X = true) (h : stepN X ms md mk m0 m1 m2 m3 d = some (l, r)) : validN l = true := by
  unfold stepN at h
  split at h
  · cases h
  split at h
  · injection h with h; injection h with h _; rw [← h]; exact hv
  split at h
  · rename_i hc
    injection h with h; injection h with h _; rw [← h]
    obtain ⟨_, ⟨h1, h2, _⟩, _⟩ := hc
    exact valid_do hv ⟨h1, h2⟩
  · cases h
theorem stepB_none {b : List UInt8} {X : List Nm} (h : decL b = (X, 0)) {ms md mk m0 m1 m2 m3 : Int} {d : List UInt8} (h2 : stepN X ms md mk m0 m1 m2 m3 d = none) : stepB b ms md mk m0 m1 m2 m3 d = .error 23 := by unfold stepB; rw [h]; simp [h2]
theorem stepB_some {b : List UInt8} {X : List Nm} (h : decL b = (X, 0)) {ms md mk m0 m1 m2 m3 : Int} {d : List UInt8} {r : List Nm × Rp} (h2 : stepN X ms md mk m0 m1 m2 m3 d = some r) : stepB b ms md mk m0 m1 m2 m3 d = .ok r := by unfold stepB; rw [h]; simp [h2]
end Go.Nm
namespace Go.Proofs.Ytfgbkfifiioeiaa
open Go.RowKit Go.Bs Go.Cl Go.Rw Go.Nm Go.Wi
set_option maxRecDepth 100000 in
set_option maxHeartbeats 8000000 in
theorem rstep_any (iv : Value) (b : List UInt8) (ms md mk mq m0 m1 m2 m3 : Int) (da : Option Addr) (dc : Nat) (d : List UInt8) (w : World) (hI : Bytes [] w iv b) (hbl : b.length ≤ 1000000) (hdl : d.length ≤ 1000000) (hD : Bytes [] w (.slice da d.length dc) d) :
    Calls Try.prog 19 #[iv, .agg #[.int .i64 ms, .int .i64 md, .int .i64 mk, .int .i64 mq, .int .i64 m0, .int .i64 m1, .int .i64 m2, .int .i64 m3, .slice da d.length dc]] w (RetSt (stepB b ms md mk m0 m1 m2 m3 d) ms w) := by
  obtain ⟨ia, ic, rfl⟩ := Raw.slice hI
  obtain ⟨SB, hSB⟩ : ∃ SB, SB = stepB b ms md mk m0 m1 m2 m3 d := ⟨_, rfl⟩
  rw [← hSB]
  have HSB := Lib.hid hSB
  clear hSB
  obtain ⟨M, hM⟩ : ∃ M, M = w.heap.size := ⟨_, rfl⟩
  obtain ⟨w1, hw1⟩ : ∃ W, W = w.alloc (.cells #[.int .i64 ms, .int .i64 md, .int .i64 mk, .int .i64 mq, .int .i64 m0, .int .i64 m1, .int .i64 m2, .int .i64 m3, .slice da d.length dc] 40) := ⟨_, rfl⟩
  have HW := Lib.hid hw1
  have hb1 : Below w.heap.size w w1 := by rw [hw1]; exact (Below.refl _ w).alloc (Nat.le_refl _) _
  have HM1 : Hid (w1.heap[M]? = some (.cells #[.int .i64 ms, .int .i64 md, .int .i64 mk, .int .i64 mq, .int .i64 m0, .int .i64 m1, .int .i64 m2, .int .i64 m3, .slice da d.length dc] 40 (0, 0))) := Lib.hid (by rw [hw1, hM]; exact heap_alloc_new w _)
  have HI1 := Lib.hid (Raw.below hI hb1); have HD1 := Lib.hid (Raw.below hD hb1)
  clear hw1 hI hD
  go_enter Try.func19, Try.ntmps19
  go_upto_region 1 with (fail)
  rw [← HW.out, ← hM]
  clear HW hM
  go_wp2_with fail
  refine (rdecode_any _ b _ HI1.out hbl).mono ?_
  have hdc := decL_cases b
  obtain ⟨Y, hY⟩ : ∃ Y, decL b = Y := ⟨_, rfl⟩
  rw [hY] at hdc ⊢
  rintro e w2 ⟨v2, rfl, hs2, hb2⟩
  have bel2 := hb1.trans (hb2.mono hb1.size)
  have HM2 := Lib.hid ((hb2.block M (Array.getElem?_eq_some_iff.1 HM1.out).1).trans HM1.out)
  have HD2 := Lib.hid (Raw.below HD1.out hb2)
  clear hb1 hb2 HM1 HD1 HI1
  rcases hdc with ⟨hv, h0⟩ | hbad
  rotate_left
  · subst hbad
    have HE := Lib.hid (HSB.out.trans (stepB_bad hY ms md mk m0 m1 m2 m3 d))
    obtain ⟨a2, c2, rfl⟩ := Raw.slice hs2
    clear hY hs2
    go_wp2
    go_ret3
    rw [HE.out]
    exact ⟨rfl, bel2⟩
  obtain ⟨X, ee⟩ := Y
  obtain rfl : ee = 0 := h0
  obtain ⟨a2, c2, rfl⟩ := Raw.slice hs2
  have HV := Lib.hid hv; have HY := Lib.hid hY; have HS2 := Lib.hid hs2
  clear hv hY hs2
  have m_0 : w2.cell? ⟨M, 0, none⟩ = some (.int .i64 ms) := box_at HM2.out rfl
  have m_1 : w2.cell? ⟨M, 1, none⟩ = some (.int .i64 md) := box_at HM2.out rfl
  have m_2 : w2.cell? ⟨M, 2, none⟩ = some (.int .i64 mk) := box_at HM2.out rfl
  have m_3 : w2.cell? ⟨M, 3, none⟩ = some (.int .i64 mq) := box_at HM2.out rfl
  have m_4 : w2.cell? ⟨M, 4, none⟩ = some (.int .i64 m0) := box_at HM2.out rfl
  have m_5 : w2.cell? ⟨M, 5, none⟩ = some (.int .i64 m1) := box_at HM2.out rfl
  have m_6 : w2.cell? ⟨M, 6, none⟩ = some (.int .i64 m2) := box_at HM2.out rfl
  have m_7 : w2.cell? ⟨M, 7, none⟩ = some (.int .i64 m3) := box_at HM2.out rfl
  have m_8 : w2.cell? ⟨M, 8, none⟩ = some (.slice da d.length dc) := box_at HM2.out rfl
  go_wp2_with fail
  refine (rnext_any _ X ms md mk mq m0 m1 m2 m3 da dc d _ HS2.out HV.out hdl HD2.out).mono ?_
  obtain ⟨SN, hSN⟩ : ∃ SN, stepN X ms md mk m0 m1 m2 m3 d = SN := ⟨_, rfl⟩
  rw [hSN]
  cases SN with
  | none =>
    have HE := Lib.hid (HSB.out.trans (stepB_none HY.out hSN))
    clear hSN m_0 m_1 m_2 m_3 m_4 m_5 m_6 m_7 m_8
    rintro e w3 ⟨rfl, hb3⟩
    have bel3 := bel2.trans (hb3.mono bel2.size)
    go_wp2
    go_ret3
    rw [HE.out]
    exact ⟨rfl, bel3⟩
  | some r =>
    obtain ⟨l, r⟩ := r
    have HE := Lib.hid (HSB.out.trans (stepB_some HY.out hSN))
    have HVL := Lib.hid (stepN_valid HV.out hSN)
    have hll := validN_len HVL.out
    clear hSN m_0 m_1 m_2 m_3 m_4 m_5 m_6 m_7 m_8
    rintro e w3 ⟨v3, E, rfl, hs3, hE3, hEw, hb3⟩
    have bel3 := bel2.trans (hb3.mono bel2.size)
    have HS3 := Lib.hid hs3
    have HE3 := Lib.hid hE3
    have hEw2 : w.heap.size ≤ E := Nat.le_trans bel2.size hEw
    obtain ⟨a3, c3, hv3⟩ := Raw.slice hs3
    subst hv3
    clear hs3 hE3 hEw hb3
    go_wp2_with fail
    refine (rencode_any _ l _ (by omega) HS3.out (valid_fits HVL.out)).mono ?_
    rintro e w4 ⟨v4, rfl, hr4, hb4⟩
    have bel4 := bel3.trans (hb4.mono bel3.size)
    have HE4 := Lib.hid ((hb4.block E (Array.getElem?_eq_some_iff.1 HE3.out).1).trans HE3.out)
    have HR4 := Lib.hid (own_base hr4 bel3.size)
    obtain ⟨a4, c4, hv4⟩ := own_slice hr4
    subst hv4
    clear hr4 hb4
    go_wp2
    go_ret3
    rw [HE.out]
    exact ⟨_, E, rfl, HR4.out, HE4.out, hEw2, bel4⟩
end Go.Proofs.Ytfgbkfifiioeiaa
