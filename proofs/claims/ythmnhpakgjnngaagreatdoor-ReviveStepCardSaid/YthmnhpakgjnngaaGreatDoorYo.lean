/- Revive: ReviveStep: the law walked -/
import Derived.Test.YthmnhpakgjnngaaGreatDoorXe
import Derived.Test.YthmnhpakgjnngaaGreatDoorXf
import Derived.Test.YthmnhpakgjnngaaGreatDoorYm
import Derived.Test.YthmnhpakgjnngaaGreatDoorYn
import Derived.Deep.CutRange
import Derived.WalkMore
namespace Go.Proofs.YthmnhpakgjnngaaGreatDoor
open Go.RowKit Go.Bs Go.Cl Go.Rw Go.Dt Go.Rv Go.Wi
/-- what Step gives: the image, the effects, the error -/
def stV (b : List UInt8) (m : Ms) (dn : Nat) : List UInt8 × List Ef × Int := match decV b 10 with
  | none => ([], [], 4)
  | some x => match handleV x m dn with
    | none => ([], [], 23)
    | some (x', es) => (encV x', es, 0)
/-- what Decode gives: the state and the error -/
def dcV (b : List UInt8) : Sv × Int := match decV b 10 with
  | none => (⟨0, [], []⟩, 4)
  | some x => (x, 0)
theorem stV_len (b : List UInt8) (m : Ms) (dn : Nat) : (stV b m dn).2.1.length ≤ 1000 := by
  unfold stV
  cases hd : decV b 10 with
  | none => simp
  | some x =>
    simp only
    cases hh : handleV x m dn with
    | none => simp
    | some q =>
      obtain ⟨x', es⟩ := q
      have := (handle_ok (decV_ok hd) hh).2
      simp only
      omega
theorem dcV_len (b : List UInt8) : (dcV b).1.wt.length ≤ 1000 ∧ (dcV b).1.hs.length ≤ 1000 := by
  unfold dcV
  cases hd : decV b 10 with
  | none => simp
  | some x =>
    have h := decV_ok hd
    have h1 := h.len
    have h2 := validH_len h.h
    simp only
    omega
theorem RetP.un {b : List UInt8} {m : Ms} {dn : Nat} {w w' : World} {e : Ending} (h : RetP b m dn w e w') : ∃ bv ev, e = .returned (.tuple #[bv, ev, .int .i64 (stV b m dn).2.2]) ∧ Bytes [] w' bv (stV b m dn).1 ∧ SlE w' ev (stV b m dn).2.1 ∧ Below w.heap.size w w' := by
  obtain ⟨hb, hr⟩ := h
  unfold stV
  cases hd : decV b 10 with
  | none =>
    rw [hd] at hr
    exact ⟨_, _, hr, Raw.empty _ _ _, Raw.empty _ _ _, hb⟩
  | some x =>
    rw [hd] at hr
    simp only at hr ⊢
    cases hh : handleV x m dn with
    | none =>
      rw [hh] at hr
      exact ⟨_, _, hr, Raw.empty _ _ _, Raw.empty _ _ _, hb⟩
    | some q =>
      obtain ⟨x', es⟩ := q
      rw [hh] at hr
      obtain ⟨bv, ev, he, h1, h2⟩ := hr
      exact ⟨bv, ev, he, BRow.bytes (F := []) h1 (fun f hf => by cases hf), h2, hb⟩
theorem RetD.un {b : List UInt8} {w w' : World} {e : Ending} (h : RetD (decV b 10) w e w') : ∃ sv, e = .returned (.tuple #[sv, .int .i64 (dcV b).2]) ∧ SvV w' sv (dcV b).1 ∧ Below w.heap.size w w' := by
  obtain ⟨hb, hr⟩ := h
  unfold dcV
  cases hd : decV b 10 with
  | none =>
    rw [hd] at hr
    exact ⟨_, hr, ⟨_, _, rfl, Raw.empty _ _ _, Raw.empty _ _ _⟩, hb⟩
  | some x =>
    rw [hd] at hr
    obtain ⟨sv, he, h1⟩ := hr
    exact ⟨sv, he, h1.toV, hb⟩
set_option maxRecDepth 100000 in
set_option maxHeartbeats 8000000 in
theorem law_any (x : Sv) (sv bv : Value) (b : List UInt8) (m : Ms) (da : Option Addr) (dn dc : Nat) (w0 : World) (hF : FormsAt w0) (hx : SvV w0 sv x) (hB : Bytes [] w0 bv b) (hfk : Rv.fits m.kind) :
    Calls Tryz.prog 3 #[sv, bv, .agg (msgC m (.slice da dn dc))] w0 fun e w' => e = .returned (.bool true) ∧ Below w0.heap.size w0 w' := by
  obtain ⟨wv, hv, rfl, h1, h2⟩ := hx
  obtain ⟨wa, wc, rfl⟩ := Raw.slice h1
  obtain ⟨ha, hc, rfl⟩ := Raw.slice h2
  obtain ⟨ia, ic, rfl⟩ := Raw.slice hB
  obtain ⟨⟨ab, es, er⟩, hst⟩ : ∃ q, stV b m dn = q := ⟨_, rfl⟩
  have hes := stV_len b m dn
  rw [hst] at hes
  simp only at hes
  obtain ⟨⟨d, er2⟩, hdc⟩ : ∃ q, dcV b = q := ⟨_, rfl⟩
  obtain ⟨hd1, hd2⟩ := dcV_len b
  rw [hdc] at hd1 hd2
  simp only at hd1 hd2
  obtain ⟨ms, md, mk, mq, m0, m1, m2, m3⟩ := m
  have h0 := hF.pos
  unfold msgC
  dsimp only at hfk ⊢
  have HF := Lib.hid hF; have HFK := Lib.hid hfk
  clear hF hfk
  obtain ⟨C1, hC1⟩ : ∃ C : Array Value, C = #[.int .i64 x.r, .slice wa x.wt.length wc, .slice ha x.hs.length hc] := ⟨_, rfl⟩
  obtain ⟨C2, hC2⟩ : ∃ C : Array Value, C = #[.int .i64 ms, .int .i64 md, .int .i64 mk, .int .i64 mq, .int .i64 m0, .int .i64 m1, .int .i64 m2, .int .i64 m3, .slice da dn dc] := ⟨_, rfl⟩
  obtain ⟨b1, hb1⟩ : ∃ X, X = w0.alloc (.cells C1 27) := ⟨_, rfl⟩
  obtain ⟨w1, hb2⟩ : ∃ X, X = b1.alloc (.cells C2 31) := ⟨_, rfl⟩
  have z1 : b1.heap.size = w0.heap.size + 1 := by rw [hb1]; simp
  have e1 : Below w0.heap.size w0 b1 := by rw [hb1]; exact (Below.refl _ w0).alloc (Nat.le_refl _) _
  have n1 : b1.heap[w0.heap.size]? = some (.cells C1 27 (0, 0)) := by rw [hb1]; exact heap_alloc_new w0 _
  have e2 : Below b1.heap.size b1 w1 := by rw [hb2]; exact (Below.refl _ b1).alloc (Nat.le_refl _) _
  have n2 : w1.heap[w0.heap.size + 1]? = some (.cells C2 31 (0, 0)) := by rw [hb2, ← z1]; exact heap_alloc_new b1 _
  have bel1 := e1.trans (e2.mono e1.size)
  have HT1 := Lib.hid ((e2.block w0.heap.size (by omega)).trans n1)
  have HM1 := Lib.hid n2
  rw [hC1] at HT1 hb1
  rw [hC2] at HM1 hb2
  have HW1 := Lib.hid hb1; have HW2 := Lib.hid hb2
  have HI1 := Lib.hid (Raw.below h1 bel1)
  have HJ1 := Lib.hid (Raw.below h2 bel1)
  have HB1 := Lib.hid (Raw.below hB bel1)
  clear hC1 hC2 hb1 hb2 e1 n1 e2 n2 h1 h2 hB C1 C2
  go_enter Tryz.func3, Tryz.ntmps3
  go_upto_region 1 with (fail)
  rw [← HW1.out, ← HW2.out]
  obtain ⟨S, hS⟩ : ∃ A, A = w0.heap.size := ⟨_, rfl⟩
  obtain ⟨M, hM⟩ : ∃ A, A = w0.heap.size + 1 := ⟨_, rfl⟩
  rw [← hM, ← hS]
  rw [← hS] at HT1
  rw [← hM] at HM1
  clear hS hM z1 HW1 HW2
  go_wp2_with fail
  refine (awake_any w1 (HF.out.below bel1 h0)).mono ?_
  rintro e w2 ⟨rfl, hb2⟩
  have HT2 := Lib.hid ((hb2.block S (Array.getElem?_eq_some_iff.1 HT1.out).1).trans HT1.out)
  have HM2 := Lib.hid ((hb2.block M (Array.getElem?_eq_some_iff.1 HM1.out).1).trans HM1.out)
  have HI2 := Lib.hid (Raw.below HI1.out hb2)
  have HJ2 := Lib.hid (Raw.below HJ1.out hb2)
  have HB2 := Lib.hid (Raw.below HB1.out hb2)
  clear HT1 HM1 HI1 HJ1 HB1
  have bel2 := bel1.trans (hb2.mono bel1.size)
  clear hb2
  have cT_0 := box_at HT2.out (j := 0) rfl
  have cT_1 := box_at HT2.out (j := 1) rfl
  have cT_2 := box_at HT2.out (j := 2) rfl
  by_cases hfew : x.wt.length ≤ 40 ∧ x.hs.length ≤ 40
  · go_wp2_with fail
    refine (few_any x.r _ _ x.wt.length x.hs.length w2 ⟨_, _, rfl⟩ ⟨_, _, rfl⟩).mono ?_
    rw [decide_eq_true hfew]
    rintro e w3 ⟨rfl, hb3⟩
    clear cT_0 cT_1 cT_2
    have HT3 := Lib.hid ((hb3.block S (Array.getElem?_eq_some_iff.1 HT2.out).1).trans HT2.out)
    have HM3 := Lib.hid ((hb3.block M (Array.getElem?_eq_some_iff.1 HM2.out).1).trans HM2.out)
    have HI3 := Lib.hid (Raw.below HI2.out hb3)
    have HJ3 := Lib.hid (Raw.below HJ2.out hb3)
    have HB3 := Lib.hid (Raw.below HB2.out hb3)
    clear HT2 HM2 HI2 HJ2 HB2
    have bel3 := bel2.trans (hb3.mono bel2.size)
    clear hb3
    have hl1 : x.wt.length ≤ 1000 := by omega
    have hl2 : x.hs.length ≤ 1000 := by omega
    clear hfew
    have cM_0 := box_at HM3.out (j := 0) rfl
    have cM_1 := box_at HM3.out (j := 1) rfl
    have cM_2 := box_at HM3.out (j := 2) rfl
    have cM_3 := box_at HM3.out (j := 3) rfl
    have cM_4 := box_at HM3.out (j := 4) rfl
    have cM_5 := box_at HM3.out (j := 5) rfl
    have cM_6 := box_at HM3.out (j := 6) rfl
    have cM_7 := box_at HM3.out (j := 7) rfl
    have cM_8 := box_at HM3.out (j := 8) rfl
    by_cases hbl : 400 < b.length
    · have hbl' : (400 : Int) < b.length := by omega
      go_wp2
      go_ret
      exact ⟨rfl, bel3⟩
    have hbl' : ¬ (400 : Int) < b.length := by omega
    by_cases hdn : 200 < dn
    · have hdn' : (200 : Int) < dn := by omega
      go_wp2
      go_ret
      exact ⟨rfl, bel3⟩
    have hdn' : ¬ (200 : Int) < dn := by omega
    have hbm : b.length ≤ 1000000 := by omega
    go_wp2_with fail
    refine (step_any _ b ⟨ms, md, mk, mq, m0, m1, m2, m3⟩ da dn dc w3 HB3.out hbm (HF.out.below bel3 h0) HFK.out).mono ?_
    intro e w4 hret
    obtain ⟨av, kv, rfl, ha4, hk4, hb4⟩ := RetP.un hret
    clear hret
    clear cM_0 cM_1 cM_2 cM_3 cM_4 cM_5 cM_6 cM_7 cM_8
    have HT4 := Lib.hid ((hb4.block S (Array.getElem?_eq_some_iff.1 HT3.out).1).trans HT3.out)
    have HM4 := Lib.hid ((hb4.block M (Array.getElem?_eq_some_iff.1 HM3.out).1).trans HM3.out)
    have HI4 := Lib.hid (Raw.below HI3.out hb4)
    have HJ4 := Lib.hid (Raw.below HJ3.out hb4)
    have HB4 := Lib.hid (Raw.below HB3.out hb4)
    clear HT3 HM3 HI3 HJ3 HB3
    have bel4 := bel3.trans (hb4.mono bel3.size)
    rw [hst] at ha4 hk4 ⊢
    simp only at ha4 hk4 ⊢
    obtain ⟨aa, ac, rfl⟩ := Raw.slice ha4
    obtain ⟨ka, kc, rfl⟩ := Raw.slice hk4
    have HA4 : Hid (Bytes [] w4 (.slice aa ab.length ac) ab) := Lib.hid (ha4)
    have HE4 : Hid (Raw [] 15 w4 (.slice ka es.length kc) es.length (es.flatMap encE)) := Lib.hid (hk4)
    clear ha4 hk4 hb4 hbl' hdn'
    have cM_0 := box_at HM4.out (j := 0) rfl
    have cM_1 := box_at HM4.out (j := 1) rfl
    have cM_2 := box_at HM4.out (j := 2) rfl
    have cM_3 := box_at HM4.out (j := 3) rfl
    have cM_4 := box_at HM4.out (j := 4) rfl
    have cM_5 := box_at HM4.out (j := 5) rfl
    have cM_6 := box_at HM4.out (j := 6) rfl
    have cM_7 := box_at HM4.out (j := 7) rfl
    have cM_8 := box_at HM4.out (j := 8) rfl
    go_wp2_with fail
    refine (rstep_any _ b ⟨ms, md, mk, mq, m0, m1, m2, m3⟩ da dn dc w4 HB4.out hbm).mono ?_
    intro e w5 hret
    obtain ⟨av2, kv2, rfl, ha5, hk5, hb5⟩ := RetP.un hret
    clear hret
    clear cM_0 cM_1 cM_2 cM_3 cM_4 cM_5 cM_6 cM_7 cM_8
    have HT5 := Lib.hid ((hb5.block S (Array.getElem?_eq_some_iff.1 HT4.out).1).trans HT4.out)
    have HM5 := Lib.hid ((hb5.block M (Array.getElem?_eq_some_iff.1 HM4.out).1).trans HM4.out)
    have HI5 := Lib.hid (Raw.below HI4.out hb5)
    have HJ5 := Lib.hid (Raw.below HJ4.out hb5)
    have HB5 := Lib.hid (Raw.below HB4.out hb5)
    have HA5 := Lib.hid (Raw.below HA4.out hb5)
    have HE5 := Lib.hid (Raw.below HE4.out hb5)
    clear HT4 HM4 HI4 HJ4 HB4 HA4 HE4
    have bel5 := bel4.trans (hb5.mono bel4.size)
    rw [hst] at ha5 hk5 ⊢
    simp only at ha5 hk5 ⊢
    obtain ⟨aa2, ac2, rfl⟩ := Raw.slice ha5
    obtain ⟨ka2, kc2, rfl⟩ := Raw.slice hk5
    have HG5 : Hid (Bytes [] w5 (.slice aa2 ab.length ac2) ab) := Lib.hid (ha5)
    have HL5 : Hid (Raw [] 15 w5 (.slice ka2 es.length kc2) es.length (es.flatMap encE)) := Lib.hid (hk5)
    clear ha5 hk5 hb5 hst
    clear HM5
    go_wp2_with fail
    refine (decode_any _ b w5 HB5.out hbm).mono ?_
    intro e w6 hret
    obtain ⟨svK, rfl, hsv, hb6⟩ := RetD.un hret
    clear hret
    have HT6 := Lib.hid ((hb6.block S (Array.getElem?_eq_some_iff.1 HT5.out).1).trans HT5.out)
    have HI6 := Lib.hid (Raw.below HI5.out hb6)
    have HJ6 := Lib.hid (Raw.below HJ5.out hb6)
    have HB6 := Lib.hid (Raw.below HB5.out hb6)
    have HA6 := Lib.hid (Raw.below HA5.out hb6)
    have HE6 := Lib.hid (Raw.below HE5.out hb6)
    have HG6 := Lib.hid (Raw.below HG5.out hb6)
    have HL6 := Lib.hid (Raw.below HL5.out hb6)
    clear HT5 HI5 HJ5 HB5 HA5 HE5 HG5 HL5
    have bel6 := bel5.trans (hb6.mono bel5.size)
    rw [hdc] at hsv ⊢
    simp only at hsv ⊢
    obtain ⟨pv, qv, rfl, hp, hq⟩ := hsv
    obtain ⟨kp, kpc, rfl⟩ := Raw.slice hp
    obtain ⟨kq, kqc, rfl⟩ := Raw.slice hq
    have HP6 : Hid (Ints [] w6 (.slice kp d.wt.length kpc) d.wt) := Lib.hid (hp)
    have HQ6 : Hid (Raw [] 3 w6 (.slice kq d.hs.length kqc) d.hs.length (d.hs.flatMap encH)) := Lib.hid (hq)
    clear hp hq hb6
    obtain ⟨K, hK⟩ : ∃ O, O = w6.heap.size := ⟨_, rfl⟩
    obtain ⟨w7, hw7⟩ : ∃ W, W = w6.alloc (.cells #[.int .i64 d.r, .slice kp d.wt.length kpc, .slice kq d.hs.length kqc] 41) := ⟨_, rfl⟩
    have hb7 : Below w6.heap.size w6 w7 := by rw [hw7]; exact (Below.refl _ _).alloc (Nat.le_refl _) _
    have hxK : w7.heap[K]? = some (.cells #[.int .i64 d.r, .slice kp d.wt.length kpc, .slice kq d.hs.length kqc] 41 (0, 0)) := by rw [hw7, hK]; exact heap_alloc_new w6 _
    have HW7 := Lib.hid hw7
    have HRK := Lib.hid hK
    clear hw7 hK
    go_upto_region 8 with (fail)
    rw [← HW7.out, ← HRK.out]
    clear HW7 HRK
    have HT7 := Lib.hid ((hb7.block S (Array.getElem?_eq_some_iff.1 HT6.out).1).trans HT6.out)
    have HI7 := Lib.hid (Raw.below HI6.out hb7)
    have HJ7 := Lib.hid (Raw.below HJ6.out hb7)
    have HB7 := Lib.hid (Raw.below HB6.out hb7)
    have HA7 := Lib.hid (Raw.below HA6.out hb7)
    have HE7 := Lib.hid (Raw.below HE6.out hb7)
    have HG7 := Lib.hid (Raw.below HG6.out hb7)
    have HL7 := Lib.hid (Raw.below HL6.out hb7)
    have HP7 := Lib.hid (Raw.below HP6.out hb7)
    have HQ7 := Lib.hid (Raw.below HQ6.out hb7)
    clear HT6 HI6 HJ6 HB6 HA6 HE6 HG6 HL6 HP6 HQ6
    have bel7 := bel6.trans (hb7.mono bel6.size)
    have HK7 := Lib.hid (hxK)
    clear hb7 hxK
    go_wp2_with fail
    refine (rdecode_any _ b w7 HB7.out hbm).mono ?_
    intro e w8 hret
    rw [decV_32] at hret
    obtain ⟨svY, rfl, hsv, hb8⟩ := RetD.un hret
    clear hret
    have HT8 := Lib.hid ((hb8.block S (Array.getElem?_eq_some_iff.1 HT7.out).1).trans HT7.out)
    have HI8 := Lib.hid (Raw.below HI7.out hb8)
    have HJ8 := Lib.hid (Raw.below HJ7.out hb8)
    have HB8 := Lib.hid (Raw.below HB7.out hb8)
    have HA8 := Lib.hid (Raw.below HA7.out hb8)
    have HE8 := Lib.hid (Raw.below HE7.out hb8)
    have HG8 := Lib.hid (Raw.below HG7.out hb8)
    have HL8 := Lib.hid (Raw.below HL7.out hb8)
    have HP8 := Lib.hid (Raw.below HP7.out hb8)
    have HQ8 := Lib.hid (Raw.below HQ7.out hb8)
    have HK8 := Lib.hid ((hb8.block K (Array.getElem?_eq_some_iff.1 HK7.out).1).trans HK7.out)
    clear HT7 HI7 HJ7 HB7 HA7 HE7 HG7 HL7 HP7 HQ7 HK7
    have bel8 := bel7.trans (hb8.mono bel7.size)
    rw [hdc] at hsv ⊢
    simp only at hsv ⊢
    obtain ⟨pv, qv, rfl, hp, hq⟩ := hsv
    obtain ⟨yp, ypc, rfl⟩ := Raw.slice hp
    obtain ⟨yq, yqc, rfl⟩ := Raw.slice hq
    have HU8 : Hid (Ints [] w8 (.slice yp d.wt.length ypc) d.wt) := Lib.hid (hp)
    have HV8 : Hid (Raw [] 3 w8 (.slice yq d.hs.length yqc) d.hs.length (d.hs.flatMap encH)) := Lib.hid (hq)
    clear hp hq hb8
    obtain ⟨Y, hY⟩ : ∃ O, O = w8.heap.size := ⟨_, rfl⟩
    obtain ⟨w9, hw9⟩ : ∃ W, W = w8.alloc (.cells #[.int .i64 d.r, .slice yp d.wt.length ypc, .slice yq d.hs.length yqc] 27) := ⟨_, rfl⟩
    have hb9 : Below w8.heap.size w8 w9 := by rw [hw9]; exact (Below.refl _ _).alloc (Nat.le_refl _) _
    have hxY : w9.heap[Y]? = some (.cells #[.int .i64 d.r, .slice yp d.wt.length ypc, .slice yq d.hs.length yqc] 27 (0, 0)) := by rw [hw9, hY]; exact heap_alloc_new w8 _
    have HW9 := Lib.hid hw9
    have HRY := Lib.hid hY
    clear hw9 hY
    go_upto_region 9 with (fail)
    rw [← HW9.out, ← HRY.out]
    clear HW9 HRY
    have HT9 := Lib.hid ((hb9.block S (Array.getElem?_eq_some_iff.1 HT8.out).1).trans HT8.out)
    have HI9 := Lib.hid (Raw.below HI8.out hb9)
    have HJ9 := Lib.hid (Raw.below HJ8.out hb9)
    have HB9 := Lib.hid (Raw.below HB8.out hb9)
    have HA9 := Lib.hid (Raw.below HA8.out hb9)
    have HE9 := Lib.hid (Raw.below HE8.out hb9)
    have HG9 := Lib.hid (Raw.below HG8.out hb9)
    have HL9 := Lib.hid (Raw.below HL8.out hb9)
    have HP9 := Lib.hid (Raw.below HP8.out hb9)
    have HQ9 := Lib.hid (Raw.below HQ8.out hb9)
    have HK9 := Lib.hid ((hb9.block K (Array.getElem?_eq_some_iff.1 HK8.out).1).trans HK8.out)
    have HU9 := Lib.hid (Raw.below HU8.out hb9)
    have HV9 := Lib.hid (Raw.below HV8.out hb9)
    clear HT8 HI8 HJ8 HB8 HA8 HE8 HG8 HL8 HP8 HQ8 HK8 HU8 HV8
    have bel9 := bel8.trans (hb9.mono bel8.size)
    have HY9 := Lib.hid (hxY)
    clear hb9 hxY
    clear hdc
    clear HB9
    go_upto_region 9 with (fail)
    have HBL9 : Hid (∀ q ∈ [S, Y], ∃ cc e f, w9.heap[q]? = some (.cells cc e f)) := Lib.hid (by
      intro q hq
      simp only [List.mem_cons, List.not_mem_nil, or_false] at hq
      rcases hq with rfl | rfl <;> first | exact ⟨_, _, _, HT9.out⟩ | exact ⟨_, _, _, HY9.out⟩)
    have hBl := show ∀ q ∈ [S, Y], ∃ cc e f, w9.heap[q]? = some (.cells cc e f) from HBL9.out
    clear HBL9
    refine Txt.Ty.wp_tree [S, Y] [23, 31] [] [5, 7, 21, 23, 27, 31] [0, 1, 2, 3, 4, 5, 6, 7, 8, 9, 10, 11, 12] (.alt [13, 14, 15, 16, 17, 18, 19, 20, 21, 23] (.alt [22] (.alt [24, 25, 26, 27, 31] (.alt [28] (.alt [29] (.alt [30] (.alt [32] (.alt [33, 34, 35, 36] (.done) (.no)) (.no)) (.alt [32] (.alt [30] (.alt [33, 34, 35, 36] (.done) (.no)) (.alt [33] (.alt [30, 34, 35, 36] (.done) (.no)) (.no))) (.no))) (.no)) (.no)) (.no)) (.no)) (.no)) (by kernel_rfl) (by kernel_rfl) (by kernel_rfl) (by kernel_rfl) hBl ?_
    obtain ⟨w10, hwd⟩ : ∃ y, y = w9.drew := ⟨_, rfl⟩
    have HS10 : Hid (Txt.SameB [S, Y] w10 w10) := Lib.hid (by rw [hwd]; exact same_start hBl)
    clear hBl
    rw [← hwd]
    have hdr : Below w9.heap.size w9 w10 := by rw [hwd]; exact (Below.refl _ _).drew
    have HT10 := Lib.hid ((hdr.block S (Array.getElem?_eq_some_iff.1 HT9.out).1).trans HT9.out)
    have HI10 := Lib.hid (Raw.below HI9.out hdr)
    have HJ10 := Lib.hid (Raw.below HJ9.out hdr)
    have HA10 := Lib.hid (Raw.below HA9.out hdr)
    have HE10 := Lib.hid (Raw.below HE9.out hdr)
    have HG10 := Lib.hid (Raw.below HG9.out hdr)
    have HL10 := Lib.hid (Raw.below HL9.out hdr)
    have HP10 := Lib.hid (Raw.below HP9.out hdr)
    have HQ10 := Lib.hid (Raw.below HQ9.out hdr)
    have HK10 := Lib.hid ((hdr.block K (Array.getElem?_eq_some_iff.1 HK9.out).1).trans HK9.out)
    have HU10 := Lib.hid (Raw.below HU9.out hdr)
    have HV10 := Lib.hid (Raw.below HV9.out hdr)
    have HY10 := Lib.hid ((hdr.block Y (Array.getElem?_eq_some_iff.1 HY9.out).1).trans HY9.out)
    clear HT9 HI9 HJ9 HA9 HE9 HG9 HL9 HP9 HQ9 HK9 HU9 HV9 HY9
    have bel10 := bel9.trans (hdr.mono bel9.size)
    clear hdr hwd
    have cT_0 := box_at HT10.out (j := 0) rfl
    have cT_1 := box_at HT10.out (j := 1) rfl
    have cT_2 := box_at HT10.out (j := 2) rfl
    have cY_0 := box_at HY10.out (j := 0) rfl
    have cY_1 := box_at HY10.out (j := 1) rfl
    have cY_2 := box_at HY10.out (j := 2) rfl
    have cK_0 := box_at HK10.out (j := 0) rfl
    have cK_1 := box_at HK10.out (j := 1) rfl
    have cK_2 := box_at HK10.out (j := 2) rfl
    have s1 := run_str HA10.out 28 5 9 Tryz.underlying28 Tryz.underlying5 Tryz.underlying9
    have s2 := run_str HG10.out 28 5 9 Tryz.underlying28 Tryz.underlying5 Tryz.underlying9
    (try simp only [Txt.pick, List.getElem?_cons_succ, List.getElem?_cons_zero])
    go_wp2
    refine Txt.RunPost.mk ?_
    clear cT_0 cT_1 cT_2 cY_0 cY_1 cY_2 cK_0 cK_1 cK_2 s1 s2
    have cT_0 := box_at HT10.out (j := 0) rfl
    have cT_1 := box_at HT10.out (j := 1) rfl
    have cT_2 := box_at HT10.out (j := 2) rfl
    have cY_0 := box_at HY10.out (j := 0) rfl
    have cY_1 := box_at HY10.out (j := 1) rfl
    have cY_2 := box_at HY10.out (j := 2) rfl
    have cK_0 := box_at HK10.out (j := 0) rfl
    have cK_1 := box_at HK10.out (j := 1) rfl
    have cK_2 := box_at HK10.out (j := 2) rfl
    refine Txt.Ty.wpTr_alt ?_ Txt.Ty.wpTr_no
    (try simp only [Txt.pick, List.getElem?_cons_succ, List.getElem?_cons_zero])
    go_wp2_with fail
    refine (sameeff_any _ _ es w10 hes HE10.out HL10.out).mono ?_
    rintro e w11 ⟨rfl, hb11⟩
    clear cT_0 cT_1 cT_2 cY_0 cY_1 cY_2 cK_0 cK_1 cK_2
    have HT11 := Lib.hid ((hb11.block S (Array.getElem?_eq_some_iff.1 HT10.out).1).trans HT10.out)
    have HI11 := Lib.hid (Raw.below HI10.out hb11)
    have HJ11 := Lib.hid (Raw.below HJ10.out hb11)
    have HA11 := Lib.hid (Raw.below HA10.out hb11)
    have HE11 := Lib.hid (Raw.below HE10.out hb11)
    have HG11 := Lib.hid (Raw.below HG10.out hb11)
    have HL11 := Lib.hid (Raw.below HL10.out hb11)
    have HP11 := Lib.hid (Raw.below HP10.out hb11)
    have HQ11 := Lib.hid (Raw.below HQ10.out hb11)
    have HK11 := Lib.hid ((hb11.block K (Array.getElem?_eq_some_iff.1 HK10.out).1).trans HK10.out)
    have HU11 := Lib.hid (Raw.below HU10.out hb11)
    have HV11 := Lib.hid (Raw.below HV10.out hb11)
    have HY11 := Lib.hid ((hb11.block Y (Array.getElem?_eq_some_iff.1 HY10.out).1).trans HY10.out)
    clear HT10 HI10 HJ10 HA10 HE10 HG10 HL10 HP10 HQ10 HK10 HU10 HV10 HY10
    have bel11 := bel10.trans (hb11.mono bel10.size)
    have HS11 := Lib.hid (same_below' HS10.out hb11)
    clear hb11
    clear HE11
    clear HL11
    clear HA11
    clear HG11
    have cT_0 := box_at HT11.out (j := 0) rfl
    have cT_1 := box_at HT11.out (j := 1) rfl
    have cT_2 := box_at HT11.out (j := 2) rfl
    have cY_0 := box_at HY11.out (j := 0) rfl
    have cY_1 := box_at HY11.out (j := 1) rfl
    have cY_2 := box_at HY11.out (j := 2) rfl
    have cK_0 := box_at HK11.out (j := 0) rfl
    have cK_1 := box_at HK11.out (j := 1) rfl
    have cK_2 := box_at HK11.out (j := 2) rfl
    go_wp2
    refine Txt.SegPost.mk (Txt.Ty.Shown.same HS11.out) ?_
    (try simp only [Txt.pick, List.getElem?_cons_succ, List.getElem?_cons_zero])
    go_wp2
    refine Txt.RunPost.mk ?_
    refine Txt.Ty.wpTr_alt ?_ Txt.Ty.wpTr_no
    (try simp only [Txt.pick, List.getElem?_cons_succ, List.getElem?_cons_zero])
    go_wp2_with fail
    refine (from_any _ d w11 hd1 hd2 ⟨_, _, rfl, HP11.out, HQ11.out⟩).mono ?_
    rintro e w12 ⟨v12, rfl, hn12, hb12⟩
    clear cT_0 cT_1 cT_2 cY_0 cY_1 cY_2 cK_0 cK_1 cK_2
    have HT12 := Lib.hid ((hb12.block S (Array.getElem?_eq_some_iff.1 HT11.out).1).trans HT11.out)
    have HI12 := Lib.hid (Raw.below HI11.out hb12)
    have HJ12 := Lib.hid (Raw.below HJ11.out hb12)
    have HP12 := Lib.hid (Raw.below HP11.out hb12)
    have HQ12 := Lib.hid (Raw.below HQ11.out hb12)
    have HK12 := Lib.hid ((hb12.block K (Array.getElem?_eq_some_iff.1 HK11.out).1).trans HK11.out)
    have HU12 := Lib.hid (Raw.below HU11.out hb12)
    have HV12 := Lib.hid (Raw.below HV11.out hb12)
    have HY12 := Lib.hid ((hb12.block Y (Array.getElem?_eq_some_iff.1 HY11.out).1).trans HY11.out)
    clear HT11 HI11 HJ11 HP11 HQ11 HK11 HU11 HV11 HY11
    have bel12 := bel11.trans (hb12.mono bel11.size)
    have HS12 := Lib.hid (same_below' HS11.out hb12)
    have HN12 := Lib.hid (SvN.toV hn12)
    clear hn12 hb12
    clear HP12
    clear HQ12
    clear HK12
    have cT_0 := box_at HT12.out (j := 0) rfl
    have cT_1 := box_at HT12.out (j := 1) rfl
    have cT_2 := box_at HT12.out (j := 2) rfl
    have cY_0 := box_at HY12.out (j := 0) rfl
    have cY_1 := box_at HY12.out (j := 1) rfl
    have cY_2 := box_at HY12.out (j := 2) rfl
    go_wp2
    refine Txt.SegPost.mk (Txt.Ty.Shown.same HS12.out) ?_
    (try simp only [Txt.pick, List.getElem?_cons_succ, List.getElem?_cons_zero])
    go_wp2
    refine Txt.RunPost.mk ?_
    refine Txt.Ty.wpTr_alt ?_ Txt.Ty.wpTr_no
    (try simp only [Txt.pick, List.getElem?_cons_succ, List.getElem?_cons_zero])
    go_wp2_with fail
    refine (rsameV_any _ _ d w12 hd1 hd2 HN12.out ⟨_, _, rfl, HU12.out, HV12.out⟩).mono ?_
    rintro e w13 ⟨rfl, hb13⟩
    clear cT_0 cT_1 cT_2 cY_0 cY_1 cY_2
    have HT13 := Lib.hid ((hb13.block S (Array.getElem?_eq_some_iff.1 HT12.out).1).trans HT12.out)
    have HI13 := Lib.hid (Raw.below HI12.out hb13)
    have HJ13 := Lib.hid (Raw.below HJ12.out hb13)
    have HU13 := Lib.hid (Raw.below HU12.out hb13)
    have HV13 := Lib.hid (Raw.below HV12.out hb13)
    have HY13 := Lib.hid ((hb13.block Y (Array.getElem?_eq_some_iff.1 HY12.out).1).trans HY12.out)
    have HN13 := Lib.hid (SvV.below HN12.out hb13)
    clear HT12 HI12 HJ12 HU12 HV12 HY12 HN12
    have bel13 := bel12.trans (hb13.mono bel12.size)
    have HS13 := Lib.hid (same_below' HS12.out hb13)
    clear hb13
    clear HN13
    clear HU13
    clear HV13
    clear HY13
    have cT_0 := box_at HT13.out (j := 0) rfl
    have cT_1 := box_at HT13.out (j := 1) rfl
    have cT_2 := box_at HT13.out (j := 2) rfl
    go_wp2
    refine Txt.SegPost.mk (Txt.Ty.Shown.same HS13.out) ?_
    (try simp only [Txt.pick, List.getElem?_cons_succ, List.getElem?_cons_zero])
    go_wp2
    refine Txt.RunPost.mk ?_
    refine Txt.Ty.wpTr_alt ?_ Txt.Ty.wpTr_no
    (try simp only [Txt.pick, List.getElem?_cons_succ, List.getElem?_cons_zero])
    go_wp2_with fail
    refine (to_any _ x w13 hl1 hl2 ⟨_, _, rfl, HI13.out, HJ13.out⟩).mono ?_
    rintro e w14 ⟨v14, rfl, hn14, hb14⟩
    clear cT_0 cT_1 cT_2
    have HT14 := Lib.hid ((hb14.block S (Array.getElem?_eq_some_iff.1 HT13.out).1).trans HT13.out)
    have HI14 := Lib.hid (Raw.below HI13.out hb14)
    have HJ14 := Lib.hid (Raw.below HJ13.out hb14)
    clear HT13 HI13 HJ13
    have bel14 := bel13.trans (hb14.mono bel13.size)
    have HS14 := Lib.hid (same_below' HS13.out hb14)
    obtain ⟨ov, oh, rfl, ho1, ho2⟩ := SvN.toV hn14
    have HO14 : Hid (Ints [] w14 ov x.wt) := Lib.hid (ho1)
    have HX14 := Lib.hid (ho2)
    clear hn14 hb14 ho1 ho2
    go_wp2
    refine Txt.SegPost.mk (Txt.Ty.Shown.same HS14.out) ?_
    (try simp only [Txt.pick, List.getElem?_cons_succ, List.getElem?_cons_zero])
    go_wp2
    refine Txt.RunPost.mk ?_
    refine Txt.Ty.wpTr_alt ?_ Txt.Ty.wpTr_no
    (try simp only [Txt.pick, List.getElem?_cons_succ, List.getElem?_cons_zero])
    go_wp2_with fail
    refine (encode_any x _ _ w14 hl1 hl2 HO14.out HX14.out).mono ?_
    rintro e w15 ⟨v15, rfl, hr15, hb15⟩
    have HT15 := Lib.hid ((hb15.block S (Array.getElem?_eq_some_iff.1 HT14.out).1).trans HT14.out)
    have HI15 := Lib.hid (Raw.below HI14.out hb15)
    have HJ15 := Lib.hid (Raw.below HJ14.out hb15)
    have HO15 := Lib.hid (Raw.below HO14.out hb15)
    have HX15 := Lib.hid (Raw.below HX14.out hb15)
    clear HT14 HI14 HJ14 HO14 HX14
    have bel15 := bel14.trans (hb15.mono bel14.size)
    have HS15 := Lib.hid (same_below' HS14.out hb15)
    have HZ15 := Lib.hid (BRow.bytes (F := []) hr15 (fun f hf => by cases hf))
    obtain ⟨za, zc, rfl⟩ := own_slice hr15
    clear hr15 hb15
    clear HO15
    clear HX15
    go_wp2
    refine Txt.SegPost.mk (Txt.Ty.Shown.same HS15.out) ?_
    (try simp only [Txt.pick, List.getElem?_cons_succ, List.getElem?_cons_zero])
    go_wp2
    refine Txt.RunPost.mk ?_
    refine Txt.Ty.wpTr_alt ?_ (Txt.Ty.wpTr_alt ?_ Txt.Ty.wpTr_no)
    · (try simp only [Txt.pick, List.getElem?_cons_succ, List.getElem?_cons_zero])
      have s1 := run_str HZ15.out 28 5 9 Tryz.underlying28 Tryz.underlying5 Tryz.underlying9
      go_wp2
      refine Txt.SegPost.mk (Txt.Ty.Shown.same HS15.out) ?_
      (try simp only [Txt.pick, List.getElem?_cons_succ, List.getElem?_cons_zero])
      go_wp2
      refine Txt.RunPost.mk ?_
      clear s1
      refine Txt.Ty.wpTr_alt ?_ Txt.Ty.wpTr_no
      (try simp only [Txt.pick, List.getElem?_cons_succ, List.getElem?_cons_zero])
      go_wp2_with fail
      refine (rencode_any x _ _ w15 hl1 hl2 HI15.out HJ15.out).mono ?_
      rintro e w16 ⟨v16, rfl, hr16, hb16⟩
      have HT16 := Lib.hid ((hb16.block S (Array.getElem?_eq_some_iff.1 HT15.out).1).trans HT15.out)
      have HI16 := Lib.hid (Raw.below HI15.out hb16)
      have HJ16 := Lib.hid (Raw.below HJ15.out hb16)
      have HZ16 := Lib.hid (Raw.below HZ15.out hb16)
      clear HT15 HI15 HJ15 HZ15
      have bel16 := bel15.trans (hb16.mono bel15.size)
      have HS16 := Lib.hid (same_below' HS15.out hb16)
      have HC16 := Lib.hid (BRow.bytes (F := []) hr16 (fun f hf => by cases hf))
      obtain ⟨ca, cc, rfl⟩ := own_slice hr16
      clear hr16 hb16
      go_wp2
      refine Txt.SegPost.mk (Txt.Ty.Shown.same HS16.out) ?_
      (try simp only [Txt.pick, List.getElem?_cons_succ, List.getElem?_cons_zero])
      go_wp2
      refine Txt.RunPost.mk ?_
      refine Txt.Ty.wpTr_alt ?_ Txt.Ty.wpTr_no
      (try simp only [Txt.pick, List.getElem?_cons_succ, List.getElem?_cons_zero])
      have s2 := run_str HC16.out 28 5 9 Tryz.underlying28 Tryz.underlying5 Tryz.underlying9
      go_wp2
      refine Txt.SegPost.mk (Txt.Ty.Shown.same HS16.out) ?_
      (try simp only [Txt.pick, List.getElem?_cons_succ, List.getElem?_cons_zero])
      go_wp2
      refine Txt.RunPost.mk ?_
      clear s2
      refine Txt.Ty.wpTr_done (by rfl) ⟨.tail _ (.head _), .head _, trivial⟩ ?_
      go_wp2
      go_ret
      exact ⟨rfl, bel16⟩
    · (try simp only [Txt.pick, List.getElem?_cons_succ, List.getElem?_cons_zero])
      go_wp2_with fail
      refine (rencode_any x _ _ w15 hl1 hl2 HI15.out HJ15.out).mono ?_
      rintro e w16 ⟨v16, rfl, hr16, hb16⟩
      have HT16 := Lib.hid ((hb16.block S (Array.getElem?_eq_some_iff.1 HT15.out).1).trans HT15.out)
      have HI16 := Lib.hid (Raw.below HI15.out hb16)
      have HJ16 := Lib.hid (Raw.below HJ15.out hb16)
      have HZ16 := Lib.hid (Raw.below HZ15.out hb16)
      clear HT15 HI15 HJ15 HZ15
      have bel16 := bel15.trans (hb16.mono bel15.size)
      have HS16 := Lib.hid (same_below' HS15.out hb16)
      have HC16 := Lib.hid (BRow.bytes (F := []) hr16 (fun f hf => by cases hf))
      obtain ⟨ca, cc, rfl⟩ := own_slice hr16
      clear hr16 hb16
      go_wp2
      refine Txt.SegPost.mk (Txt.Ty.Shown.same HS16.out) ?_
      (try simp only [Txt.pick, List.getElem?_cons_succ, List.getElem?_cons_zero])
      go_wp2
      refine Txt.RunPost.mk ?_
      refine Txt.Ty.wpTr_alt ?_ (Txt.Ty.wpTr_alt ?_ Txt.Ty.wpTr_no)
      · (try simp only [Txt.pick, List.getElem?_cons_succ, List.getElem?_cons_zero])
        have s1 := run_str HZ16.out 28 5 9 Tryz.underlying28 Tryz.underlying5 Tryz.underlying9
        go_wp2
        refine Txt.SegPost.mk (Txt.Ty.Shown.same HS16.out) ?_
        (try simp only [Txt.pick, List.getElem?_cons_succ, List.getElem?_cons_zero])
        go_wp2
        refine Txt.RunPost.mk ?_
        clear s1
        refine Txt.Ty.wpTr_alt ?_ Txt.Ty.wpTr_no
        (try simp only [Txt.pick, List.getElem?_cons_succ, List.getElem?_cons_zero])
        have s2 := run_str HC16.out 28 5 9 Tryz.underlying28 Tryz.underlying5 Tryz.underlying9
        go_wp2
        refine Txt.SegPost.mk (Txt.Ty.Shown.same HS16.out) ?_
        (try simp only [Txt.pick, List.getElem?_cons_succ, List.getElem?_cons_zero])
        go_wp2
        refine Txt.RunPost.mk ?_
        clear s2
        refine Txt.Ty.wpTr_done (by rfl) ⟨.tail _ (.head _), .head _, trivial⟩ ?_
        go_wp2
        go_ret
        exact ⟨rfl, bel16⟩
      · (try simp only [Txt.pick, List.getElem?_cons_succ, List.getElem?_cons_zero])
        have s2 := run_str HC16.out 28 5 9 Tryz.underlying28 Tryz.underlying5 Tryz.underlying9
        go_wp2
        refine Txt.SegPost.mk (Txt.Ty.Shown.same HS16.out) ?_
        (try simp only [Txt.pick, List.getElem?_cons_succ, List.getElem?_cons_zero])
        go_wp2
        refine Txt.RunPost.mk ?_
        clear s2
        refine Txt.Ty.wpTr_alt ?_ Txt.Ty.wpTr_no
        (try simp only [Txt.pick, List.getElem?_cons_succ, List.getElem?_cons_zero])
        have s1 := run_str HZ16.out 28 5 9 Tryz.underlying28 Tryz.underlying5 Tryz.underlying9
        go_wp2
        refine Txt.SegPost.mk (Txt.Ty.Shown.same HS16.out) ?_
        (try simp only [Txt.pick, List.getElem?_cons_succ, List.getElem?_cons_zero])
        go_wp2
        refine Txt.RunPost.mk ?_
        clear s1
        refine Txt.Ty.wpTr_done (by rfl) ⟨.tail _ (.head _), .head _, trivial⟩ ?_
        go_wp2
        go_ret
        exact ⟨rfl, bel16⟩
  · go_wp2_with fail
    refine (few_any x.r _ _ x.wt.length x.hs.length w2 ⟨_, _, rfl⟩ ⟨_, _, rfl⟩).mono ?_
    rw [decide_eq_false hfew]
    rintro e w3 ⟨rfl, hb3⟩
    clear cT_0 cT_1 cT_2
    have HT3 := Lib.hid ((hb3.block S (Array.getElem?_eq_some_iff.1 HT2.out).1).trans HT2.out)
    have HM3 := Lib.hid ((hb3.block M (Array.getElem?_eq_some_iff.1 HM2.out).1).trans HM2.out)
    have HI3 := Lib.hid (Raw.below HI2.out hb3)
    have HJ3 := Lib.hid (Raw.below HJ2.out hb3)
    have HB3 := Lib.hid (Raw.below HB2.out hb3)
    clear HT2 HM2 HI2 HJ2 HB2
    have bel3 := bel2.trans (hb3.mono bel2.size)
    clear hb3 hfew
    have cM_0 := box_at HM3.out (j := 0) rfl
    have cM_1 := box_at HM3.out (j := 1) rfl
    have cM_2 := box_at HM3.out (j := 2) rfl
    have cM_3 := box_at HM3.out (j := 3) rfl
    have cM_4 := box_at HM3.out (j := 4) rfl
    have cM_5 := box_at HM3.out (j := 5) rfl
    have cM_6 := box_at HM3.out (j := 6) rfl
    have cM_7 := box_at HM3.out (j := 7) rfl
    have cM_8 := box_at HM3.out (j := 8) rfl
    go_wp2
    go_ret
    exact ⟨rfl, bel3⟩
end Go.Proofs.YthmnhpakgjnngaaGreatDoor
