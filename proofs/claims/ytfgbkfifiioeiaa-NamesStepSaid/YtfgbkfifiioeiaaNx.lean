/- names: NamesStep -/
import Derived.Test.YtfgbkfifiioeiaaNw
namespace Go.Nm
open Go Go.RowKit Go.Bs Go.Cl Go.Rw Go.Wi
theorem stepB_err {b : List UInt8} {ms md mk m0 m1 m2 m3 : Int} {d : List UInt8} {c : Int} (h : stepB b ms md mk m0 m1 m2 m3 d = .error c) : c = 4 ∨ c = 23 := by
  unfold stepB at h
  split at h
  · injection h with h; exact .inl h.symm
  · split at h
    · injection h with h; exact .inr h.symm
    · cases h
theorem stepB_valid {b : List UInt8} {ms md mk m0 m1 m2 m3 : Int} {d : List UInt8} {l : List Nm} {r : Rp} (h : stepB b ms md mk m0 m1 m2 m3 d = .ok (l, r)) : validN l = true := by
  unfold stepB at h
  split at h
  · cases h
  · rename_i h0
    split at h
    · cases h
    · rename_i r' hr
      injection h with h
      subst h
      rcases decL_cases b with ⟨hv, _⟩ | hb
      · exact stepN_valid hv hr
      · rw [hb] at h0; simp at h0
end Go.Nm
namespace Go.Proofs.Ytfgbkfifiioeiaa
open Go.RowKit Go.Bs Go.Cl Go.Rw Go.Nm Go.Wi
set_option maxRecDepth 100000 in
set_option maxHeartbeats 8000000 in
theorem steplaw_any (lv : Value) (X : List Nm) (ms md mk mq m0 m1 m2 m3 : Int) (da : Option Addr) (dc : Nat) (d : List UInt8) (w : World) (hft : ∀ x ∈ X, Wi.fits x.t) (hL : SlN w lv X) (hD : Bytes [] w (.slice da d.length dc) d) :
    Calls Try.prog 4 #[lv, .agg #[.int .i64 ms, .int .i64 md, .int .i64 mk, .int .i64 mq, .int .i64 m0, .int .i64 m1, .int .i64 m2, .int .i64 m3, .slice da d.length dc]] w fun e w' => e = .returned (.bool true) ∧ Below w.heap.size w w' := by
  obtain ⟨la, lc, rfl⟩ := Raw.slice hL
  have HFT := Lib.hid hft
  clear hft
  obtain ⟨M, hM⟩ : ∃ M, M = w.heap.size := ⟨_, rfl⟩
  obtain ⟨w1, hw1⟩ : ∃ W, W = w.alloc (.cells #[.int .i64 ms, .int .i64 md, .int .i64 mk, .int .i64 mq, .int .i64 m0, .int .i64 m1, .int .i64 m2, .int .i64 m3, .slice da d.length dc] 40) := ⟨_, rfl⟩
  have HW := Lib.hid hw1
  have hb1 : Below w.heap.size w w1 := by rw [hw1]; exact (Below.refl _ w).alloc (Nat.le_refl _) _
  have HM1 : Hid (w1.heap[M]? = some (.cells #[.int .i64 ms, .int .i64 md, .int .i64 mk, .int .i64 mq, .int .i64 m0, .int .i64 m1, .int .i64 m2, .int .i64 m3, .slice da d.length dc] 40 (0, 0))) := Lib.hid (by rw [hw1, hM]; exact heap_alloc_new w _)
  have HL1 := Lib.hid (hL.below hb1); have HD1 := Lib.hid (Raw.below hD hb1)
  clear hw1 hL hD
  go_enter Try.func4, Try.ntmps4
  go_upto_region 1 with (fail)
  rw [← HW.out, ← hM]
  clear HW hM
  go_wp2_with fail
  refine (awake_any _).mono ?_
  rintro e w2 ⟨rfl, hb2⟩
  have bel2 := hb1.trans (hb2.mono hb1.size)
  have HM2 := Lib.hid ((hb2.block M (Array.getElem?_eq_some_iff.1 HM1.out).1).trans HM1.out)
  have HL2 := Lib.hid (HL1.out.below hb2)
  have HD2 := Lib.hid (Raw.below HD1.out hb2)
  clear hb1 hb2 HM1 HL1 HD1
  have m_0 : w2.cell? ⟨M, 0, none⟩ = some (.int .i64 ms) := box_at HM2.out rfl
  have m_1 : w2.cell? ⟨M, 1, none⟩ = some (.int .i64 md) := box_at HM2.out rfl
  have m_2 : w2.cell? ⟨M, 2, none⟩ = some (.int .i64 mk) := box_at HM2.out rfl
  have m_3 : w2.cell? ⟨M, 3, none⟩ = some (.int .i64 mq) := box_at HM2.out rfl
  have m_4 : w2.cell? ⟨M, 4, none⟩ = some (.int .i64 m0) := box_at HM2.out rfl
  have m_5 : w2.cell? ⟨M, 5, none⟩ = some (.int .i64 m1) := box_at HM2.out rfl
  have m_6 : w2.cell? ⟨M, 6, none⟩ = some (.int .i64 m2) := box_at HM2.out rfl
  have m_7 : w2.cell? ⟨M, 7, none⟩ = some (.int .i64 m3) := box_at HM2.out rfl
  have m_8 : w2.cell? ⟨M, 8, none⟩ = some (.slice da d.length dc) := box_at HM2.out rfl
  cases hfew : few X
  · have HFW := Lib.hid hfew; clear hfew
    go_wp2_with fail
    refine (few_eq _ X false _ HL2.out HFW.out).mono ?_
    rintro e w' ⟨rfl, rfl⟩
    go_wp2
    go_ret
    exact ⟨rfl, bel2⟩
  obtain ⟨hl50, hn40⟩ := few_len hfew
  have HF : Hid (∀ x ∈ X, fitsN x) := Lib.hid (fun x hx => ⟨by have := hn40 x hx; omega, HFT.out x hx⟩)
  have HE := Lib.hid (encV_len HF.out (by omega))
  have HFW := Lib.hid hfew
  clear hn40 hfew HFT
  by_cases hd : d.length ≤ 200
  rotate_left
  · have hd' : (200 : Int) < (d.length : Int) := by omega
    go_wp2_with fail
    refine (few_eq _ X true _ HL2.out HFW.out).mono ?_
    rintro e w' ⟨rfl, rfl⟩
    go_wp2
    go_ret
    exact ⟨rfl, bel2⟩
  have hd' : (d.length : Int) ≤ 200 := by omega
  go_wp2_with fail
  refine (few_eq _ X true _ HL2.out HFW.out).mono ?_
  rintro e w' ⟨rfl, rfl⟩
  go_wp2_with fail
  refine (rencode_any _ X _ (by omega) HL2.out HF.out).mono ?_
  rintro e w3 ⟨v3, rfl, hr3, hb3⟩
  have bel3 := bel2.trans (hb3.mono bel2.size)
  have HB3 := Lib.hid (BRow.bytes (F := []) hr3 (fun f hf => by cases hf))
  have HM3 := Lib.hid ((hb3.block M (Array.getElem?_eq_some_iff.1 HM2.out).1).trans HM2.out)
  have HD3 := Lib.hid (Raw.below HD2.out hb3)
  obtain ⟨a3, c3, hv3⟩ := own_slice hr3
  subst hv3
  clear hr3 hb3 HM2 HD2 HL2 m_0 m_1 m_2 m_3 m_4 m_5 m_6 m_7 m_8
  obtain ⟨b, hb⟩ : ∃ b, encV X = b := ⟨_, rfl⟩
  rw [hb] at HB3 HE
  rw [hb]
  have hbl := HE.out
  clear hb
  have m_0 : w3.cell? ⟨M, 0, none⟩ = some (.int .i64 ms) := box_at HM3.out rfl
  have m_1 : w3.cell? ⟨M, 1, none⟩ = some (.int .i64 md) := box_at HM3.out rfl
  have m_2 : w3.cell? ⟨M, 2, none⟩ = some (.int .i64 mk) := box_at HM3.out rfl
  have m_3 : w3.cell? ⟨M, 3, none⟩ = some (.int .i64 mq) := box_at HM3.out rfl
  have m_4 : w3.cell? ⟨M, 4, none⟩ = some (.int .i64 m0) := box_at HM3.out rfl
  have m_5 : w3.cell? ⟨M, 5, none⟩ = some (.int .i64 m1) := box_at HM3.out rfl
  have m_6 : w3.cell? ⟨M, 6, none⟩ = some (.int .i64 m2) := box_at HM3.out rfl
  have m_7 : w3.cell? ⟨M, 7, none⟩ = some (.int .i64 m3) := box_at HM3.out rfl
  have m_8 : w3.cell? ⟨M, 8, none⟩ = some (.slice da d.length dc) := box_at HM3.out rfl
  obtain ⟨SB, hSB⟩ : ∃ SB, stepB b ms md mk m0 m1 m2 m3 d = SB := ⟨_, rfl⟩
  have HSB := Lib.hid hSB
  clear hSB
  go_wp2_with fail
  refine (step_any _ b ms md mk mq m0 m1 m2 m3 da dc d _ HB3.out (by omega) HD3.out).mono ?_
  rw [HSB.out]
  cases SB with
  | error c =>
    have hc : c = 4 ∨ c = 23 := stepB_err HSB.out
    have e0 : (c != 0) = true := by simp; omega
    have e1 : (c == c) = true := by simp
    have HC := Lib.hid hc
    clear hc
    rintro e w4 ⟨rfl, hb4⟩
    have bel4 := bel3.trans (hb4.mono bel3.size)
    have HM4 := Lib.hid ((hb4.block M (Array.getElem?_eq_some_iff.1 HM3.out).1).trans HM3.out)
    have HD4 := Lib.hid (Raw.below HD3.out hb4)
    have HB4 := Lib.hid (Raw.below HB3.out hb4)
    clear hb4 HM3 HD3 HB3 m_0 m_1 m_2 m_3 m_4 m_5 m_6 m_7 m_8
    have m_0 : w4.cell? ⟨M, 0, none⟩ = some (.int .i64 ms) := box_at HM4.out rfl
    have m_1 : w4.cell? ⟨M, 1, none⟩ = some (.int .i64 md) := box_at HM4.out rfl
    have m_2 : w4.cell? ⟨M, 2, none⟩ = some (.int .i64 mk) := box_at HM4.out rfl
    have m_3 : w4.cell? ⟨M, 3, none⟩ = some (.int .i64 mq) := box_at HM4.out rfl
    have m_4 : w4.cell? ⟨M, 4, none⟩ = some (.int .i64 m0) := box_at HM4.out rfl
    have m_5 : w4.cell? ⟨M, 5, none⟩ = some (.int .i64 m1) := box_at HM4.out rfl
    have m_6 : w4.cell? ⟨M, 6, none⟩ = some (.int .i64 m2) := box_at HM4.out rfl
    have m_7 : w4.cell? ⟨M, 7, none⟩ = some (.int .i64 m3) := box_at HM4.out rfl
    have m_8 : w4.cell? ⟨M, 8, none⟩ = some (.slice da d.length dc) := box_at HM4.out rfl
    go_wp2_with fail
    refine (rstep_any _ b ms md mk mq m0 m1 m2 m3 da dc d _ HB4.out (by omega) (by omega) HD4.out).mono ?_
    rw [HSB.out]
    rintro e w5 ⟨rfl, hb5⟩
    have bel5 := bel4.trans (hb5.mono bel4.size)
    clear hb5 HM4 HD4 HB4 m_0 m_1 m_2 m_3 m_4 m_5 m_6 m_7 m_8
    go_wp2_with fail
    refine (decode_any _ [] _ (Raw.empty _ _ _) (by simp)).mono ?_
    obtain ⟨D, hDD⟩ : ∃ D, decL [] = D := ⟨_, rfl⟩
    rw [hDD]
    obtain ⟨D1, D2⟩ := D
    rintro e w6 ⟨v6, rfl, hs6, hb6⟩
    have bel6 := bel5.trans (hb6.mono bel5.size)
    clear hs6 hb6 hDD
    have k1 := run_str (F := []) (w := w6) (l := []) (Raw.empty _ _ _) 23 5 9 Try.underlying23 Try.underlying5 Try.underlying9
    simp only
    go_wp2_with fail
    refine (sameeff_nil _).mono ?_
    rintro e w7 ⟨rfl, hb7⟩
    have bel7 := bel6.trans (hb7.mono bel6.size)
    clear k1 hb7
    go_wp2
    go_ret
    exact ⟨by simp, bel7⟩
  | ok p =>
    obtain ⟨l, r⟩ := p
    have HVL := Lib.hid (stepB_valid HSB.out)
    have hel := encV_short HVL.out
    have hdl := decL_enc HVL.out
    have HDL := Lib.hid hdl
    clear hdl
    rintro e w4 ⟨v4, E1, rfl, hr4, hE4, _, hb4⟩
    have bel4 := bel3.trans (hb4.mono bel3.size)
    have HM4 := Lib.hid ((hb4.block M (Array.getElem?_eq_some_iff.1 HM3.out).1).trans HM3.out)
    have HD4 := Lib.hid (Raw.below HD3.out hb4)
    have HB4 := Lib.hid (Raw.below HB3.out hb4)
    have HA4 := Lib.hid (BRow.bytes (F := []) hr4 (fun f hf => by cases hf))
    have HE4 := Lib.hid hE4
    obtain ⟨a4, c4, hv4⟩ := own_slice hr4
    subst hv4
    clear hb4 hr4 hE4 HM3 HD3 HB3 m_0 m_1 m_2 m_3 m_4 m_5 m_6 m_7 m_8
    have m_0 : w4.cell? ⟨M, 0, none⟩ = some (.int .i64 ms) := box_at HM4.out rfl
    have m_1 : w4.cell? ⟨M, 1, none⟩ = some (.int .i64 md) := box_at HM4.out rfl
    have m_2 : w4.cell? ⟨M, 2, none⟩ = some (.int .i64 mk) := box_at HM4.out rfl
    have m_3 : w4.cell? ⟨M, 3, none⟩ = some (.int .i64 mq) := box_at HM4.out rfl
    have m_4 : w4.cell? ⟨M, 4, none⟩ = some (.int .i64 m0) := box_at HM4.out rfl
    have m_5 : w4.cell? ⟨M, 5, none⟩ = some (.int .i64 m1) := box_at HM4.out rfl
    have m_6 : w4.cell? ⟨M, 6, none⟩ = some (.int .i64 m2) := box_at HM4.out rfl
    have m_7 : w4.cell? ⟨M, 7, none⟩ = some (.int .i64 m3) := box_at HM4.out rfl
    have m_8 : w4.cell? ⟨M, 8, none⟩ = some (.slice da d.length dc) := box_at HM4.out rfl
    go_wp2_with fail
    refine (rstep_any _ b ms md mk mq m0 m1 m2 m3 da dc d _ HB4.out (by omega) (by omega) HD4.out).mono ?_
    rw [HSB.out]
    rintro e w5 ⟨v5, E2, rfl, hr5, hE5, _, hb5⟩
    have bel5 := bel4.trans (hb5.mono bel4.size)
    have HA5 := Lib.hid (Raw.below HA4.out hb5)
    have HE5 := Lib.hid ((hb5.block E1 (Array.getElem?_eq_some_iff.1 HE4.out).1).trans HE4.out)
    have HC5 := Lib.hid (BRow.bytes (F := []) hr5 (fun f hf => by cases hf))
    have HG5 := Lib.hid hE5
    obtain ⟨a5, c5, hv5⟩ := own_slice hr5
    subst hv5
    clear hb5 hr5 hE5 HM4 HD4 HB4 HA4 HE4 m_0 m_1 m_2 m_3 m_4 m_5 m_6 m_7 m_8
    go_wp2_with fail
    refine (decode_any _ (encV l) _ HA5.out (by omega)).mono ?_
    rw [HDL.out]
    rintro e w6 ⟨v6, rfl, hs6, hb6⟩
    have bel6 := bel5.trans (hb6.mono bel5.size)
    have k1 := run_str (Raw.below HA5.out hb6) 23 5 9 Try.underlying23 Try.underlying5 Try.underlying9
    have k2 := run_str (Raw.below HC5.out hb6) 23 5 9 Try.underlying23 Try.underlying5 Try.underlying9
    have HE6 := Lib.hid ((hb6.block E1 (Array.getElem?_eq_some_iff.1 HE5.out).1).trans HE5.out)
    have HG6 := Lib.hid ((hb6.block E2 (Array.getElem?_eq_some_iff.1 HG5.out).1).trans HG5.out)
    clear hs6 hb6 HA5 HC5 HE5 HG5
    simp only
    go_wp2_with fail
    refine (sameeff_any E1 E2 ms r _ HE6.out HG6.out).mono ?_
    rintro e w7 ⟨rfl, hb7⟩
    have bel7 := bel6.trans (hb7.mono bel6.size)
    clear k1 k2 hb7
    go_wp2
    go_ret
    exact ⟨by simp, bel7⟩
end Go.Proofs.Ytfgbkfifiioeiaa
