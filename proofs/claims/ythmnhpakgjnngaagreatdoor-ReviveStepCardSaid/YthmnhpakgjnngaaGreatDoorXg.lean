/- Revive: Step -/
import Derived.Test.YthmnhpakgjnngaaGreatDoorXc
import Derived.Test.YthmnhpakgjnngaaGreatDoorXd
import Derived.Test.YthmnhpakgjnngaaGreatDoorVl
import Derived.Deep.CutRange
import Derived.WalkMore
namespace Go.Rv
open Go Go.RowKit Go.Bs Go.Cl Go.Rw Go.Dt Go.Wi
end Go.Rv
namespace Go.Proofs.YthmnhpakgjnngaaGreatDoor
open Go.RowKit Go.Bs Go.Cl Go.Rw Go.Dt Go.Rv Go.Wi
theorem handle_ok {x x' : Sv} {m : Ms} {dn : Nat} {es : List Ef} (h : VOk x) (hh : handleV x m dn = some (x', es)) : VOk x' ∧ es.length ≤ 100 := by
  unfold handleV at hh
  split at hh
  · split at hh
    · unfold failedV at hh
      split at hh
      · rename_i hc
        injection hh with hh; injection hh with h1 h2
        subst h1; subst h2
        simp [cmpt] at hc
        exact ⟨fail_ok h (by omega) (by omega) (by omega) (by omega), by simp⟩
      · cases hh
    · split at hh
      · split at hh
        · injection hh with hh
          have e1 : (alarmV x).1 = x' := by rw [hh]
          have e2 : (alarmV x).2 = es := by rw [hh]
          refine ⟨e1 ▸ alarm_ok h, ?_⟩
          rw [← e2]
          have := h.len
          unfold alarmV
          split
          · simp [comps]; omega
          · simp
        · cases hh
      · split at hh
        · injection hh with hh; injection hh with h1 h2
          subst h1; subst h2
          exact ⟨pong_ok' h _ _, by simp⟩
        · cases hh
  · cases hh
/-- what Step does with an image: nothing was decoded, nothing was handled, or the next state and the effects -/
def RetP (b : List UInt8) (m : Ms) (dn : Nat) (w : World) (e : Ending) (w' : World) : Prop := Below w.heap.size w w' ∧ match decV b 10 with
  | none => e = .returned (.tuple #[.slice none 0 0, .slice none 0 0, .int .i64 4])
  | some x => match handleV x m dn with
    | none => e = .returned (.tuple #[.slice none 0 0, .slice none 0 0, .int .i64 23])
    | some (x', es) => ∃ bv ev, e = .returned (.tuple #[bv, ev, .int .i64 0]) ∧ BRow 5 w' w.heap.size bv (encV x') ∧ SlE w' ev es
set_option maxRecDepth 100000 in
set_option maxHeartbeats 4000000 in
theorem step_any (bv : Value) (b : List UInt8) (m : Ms) (da : Option Addr) (dn dc : Nat) (w : World) (hB : Bytes [] w bv b) (hbl : b.length ≤ 1000000) (hF : FormsAt w) (hfk : Rv.fits m.kind) :
    Calls Tryz.prog 6 #[bv, .agg (msgC m (.slice da dn dc))] w (RetP b m dn w) := by
  obtain ⟨ms, md, mk, mq, m0, m1, m2, m3⟩ := m
  obtain ⟨ba, bc, rfl⟩ := Raw.slice hB
  unfold msgC
  dsimp only at hfk ⊢
  have h0 := hF.pos
  obtain ⟨M, hM⟩ : ∃ M, M = w.heap.size := ⟨_, rfl⟩
  obtain ⟨W, hW⟩ : ∃ W, W = w.alloc (.cells #[.int .i64 ms, .int .i64 md, .int .i64 mk, .int .i64 mq, .int .i64 m0, .int .i64 m1, .int .i64 m2, .int .i64 m3, .slice da dn dc] 31) := ⟨_, rfl⟩
  have hb : Below w.heap.size w W := by rw [hW]; exact (Below.refl w.heap.size w).alloc (Nat.le_refl _) _
  have hx : W.heap[M]? = some (.cells #[.int .i64 ms, .int .i64 md, .int .i64 mk, .int .i64 mq, .int .i64 m0, .int .i64 m1, .int .i64 m2, .int .i64 m3, .slice da dn dc] 31 (0, 0)) := by rw [hW, hM]; exact heap_alloc_new w _
  have HB := Lib.hid (Raw.below hB hb); have HF := Lib.hid (hF.below hb h0); have Hb := Lib.hid hb; have HMx := Lib.hid hx
  have HW := Lib.hid hW; have HMe := Lib.hid hM
  clear hB hF hb hx hW hM
  obtain ⟨D, hD⟩ : ∃ D, decV b 10 = D := ⟨_, rfl⟩
  have HD := Lib.hid hD
  go_enter Tryz.func6, Tryz.ntmps6
  go_wp2_with fail
  rw [← HW.out, ← HMe.out]
  clear HW
  refine (decode_any _ b W HB.out hbl).mono ?_
  rintro e w1 ⟨hb1, hres⟩
  rw [hD] at hres
  clear hD
  have HM1 := Lib.hid ((hb1.block M (Array.getElem?_eq_some_iff.1 HMx.out).1).trans HMx.out)
  have HF1 := Lib.hid (HF.out.below hb1 (by have := Hb.out.size; omega))
  have Hb1 := Lib.hid (Hb.out.trans (hb1.mono Hb.out.size))
  clear hb1 HMx HF Hb HB
  cases D with
  | none =>
    obtain rfl := hres
    go_wp2
    go_ret3
    refine ⟨?_, ?_⟩
    · exact Hb1.out.alloc (Hb1.out.size) _
    · rw [HD.out]; rfl
  | some x =>
    obtain ⟨sv, rfl, hsv⟩ := hres
    have hok := decV_ok HD.out
    obtain ⟨wv, hv, rfl, i1, s1⟩ := hsv.toV
    clear hsv
    obtain ⟨a, cap, rfl⟩ := Raw.slice i1
    obtain ⟨ha, hc, rfl⟩ := Raw.slice s1
    have HI := Lib.hid i1; have HS := Lib.hid s1; have HOK := Lib.hid hok
    clear i1 s1 hok
    obtain ⟨S, hS⟩ : ∃ M, M = w1.heap.size := ⟨_, rfl⟩
    obtain ⟨w2, hw2⟩ : ∃ W, W = w1.alloc (.cells #[.int .i64 x.r, .slice a x.wt.length cap, .slice ha x.hs.length hc] 41) := ⟨_, rfl⟩
    have hb2 : Below w1.heap.size w1 w2 := by rw [hw2]; exact (Below.refl w1.heap.size w1).alloc (Nat.le_refl _) _
    have hx2 : w2.heap[S]? = some (.cells #[.int .i64 x.r, .slice a x.wt.length cap, .slice ha x.hs.length hc] 41 (0, 0)) := by rw [hw2, hS]; exact heap_alloc_new w1 _
    have s0 := box_at hx2 (j := 0) rfl
    have s1 := box_at hx2 (j := 1) rfl
    have s2 := box_at hx2 (j := 2) rfl
    have hm2 := (hb2.block M (Array.getElem?_eq_some_iff.1 HM1.out).1).trans HM1.out
    have k0 := box_at hm2 (j := 0) rfl
    have k1 := box_at hm2 (j := 1) rfl
    have k2 := box_at hm2 (j := 2) rfl
    have k3 := box_at hm2 (j := 3) rfl
    have k4 := box_at hm2 (j := 4) rfl
    have k5 := box_at hm2 (j := 5) rfl
    have k6 := box_at hm2 (j := 6) rfl
    have k7 := box_at hm2 (j := 7) rfl
    have k8 := box_at hm2 (j := 8) rfl
    have HI2 := Lib.hid (Raw.below HI.out hb2); have HS2 := Lib.hid (SlH.below HS.out hb2)
    have HF2 := Lib.hid (HF1.out.below hb2 (by have := Hb1.out.size; omega))
    have Hb2 := Lib.hid (Hb1.out.trans (hb2.mono Hb1.out.size))
    have Hw2 := Lib.hid hw2; have HSe := Lib.hid hS
    clear hb2 hx2 hm2 hw2 hS HI HS HF1 Hb1 HM1
    go_upto_region 4 with (fail)
    rw [← Hw2.out, ← HSe.out]
    clear Hw2
    go_wp2_with fail
    refine (handle_any x _ _ ⟨ms, md, mk, mq, m0, m1, m2, m3⟩ da dn dc w2 HOK.out HI2.out HS2.out HF2.out hfk).mono ?_
    rintro e w3 ⟨hb3, hres⟩
    obtain ⟨RS, hRS⟩ : ∃ r, handleV x ⟨ms, md, mk, mq, m0, m1, m2, m3⟩ dn = r := ⟨_, rfl⟩
    rw [hRS] at hres
    have HRS := Lib.hid hRS
    have Hb3 := Lib.hid (Hb2.out.trans (hb3.mono Hb2.out.size))
    clear hb3 hRS s0 s1 s2 k0 k1 k2 k3 k4 k5 k6 k7 k8 HI2 HS2 HF2 Hb2
    cases RS with
    | none =>
      obtain rfl := hres
      go_wp2
      go_ret3
      refine ⟨Hb3.out.alloc Hb3.out.size _, ?_⟩
      rw [HD.out]
      simp only
      rw [HRS.out]
      rfl
    | some q =>
      obtain ⟨x', es⟩ := q
      obtain ⟨hok', hes⟩ := handle_ok HOK.out HRS.out
      obtain ⟨sv, ev, rfl, hse, hsv⟩ := hres
      obtain ⟨wv', hv', rfl, i1, t1⟩ := hsv.toV
      clear hsv
      obtain ⟨a', cap', rfl⟩ := Raw.slice i1
      obtain ⟨ha', hc', rfl⟩ := Raw.slice t1
      obtain ⟨ea, ec, rfl⟩ := Raw.slice hse
      have hl1 := hok'.len
      have hl2 := validH_len hok'.h
      obtain ⟨S', hS'⟩ : ∃ M, M = w3.heap.size := ⟨_, rfl⟩
      obtain ⟨w4, hw4⟩ : ∃ W, W = w3.alloc (.cells #[.int .i64 x'.r, .slice a' x'.wt.length cap', .slice ha' x'.hs.length hc'] 41) := ⟨_, rfl⟩
      have hb4 : Below w3.heap.size w3 w4 := by rw [hw4]; exact (Below.refl w3.heap.size w3).alloc (Nat.le_refl _) _
      have hx4 : w4.heap[S']? = some (.cells #[.int .i64 x'.r, .slice a' x'.wt.length cap', .slice ha' x'.hs.length hc'] 41 (0, 0)) := by rw [hw4, hS']; exact heap_alloc_new w3 _
      have s0 := box_at hx4 (j := 0) rfl
      have s1 := box_at hx4 (j := 1) rfl
      have s2 := box_at hx4 (j := 2) rfl
      have HI4 := Lib.hid (Raw.below i1 hb4); have HS4 := Lib.hid (SlH.below t1 hb4)
      have HE4 := Lib.hid (SlE.below (Raw.to_nil hse) hb4)
      have Hb4 := Lib.hid (Hb3.out.trans (hb4.mono Hb3.out.size))
      have Hw4 := Lib.hid hw4; have HSe' := Lib.hid hS'
      clear hb4 hx4 hw4 hS' Hb3 i1 t1 hse
      go_upto_region 7 with (fail)
      rw [← Hw4.out, ← HSe'.out]
      clear Hw4
      go_wp2_with fail
      refine (encode_any x' _ _ w4 (by omega) (by omega) HI4.out HS4.out).mono ?_
      rintro e w5 ⟨v5, rfl, hr5, hb5⟩
      obtain ⟨a5, c5, rfl⟩ := own_slice hr5
      have HR5 := Lib.hid hr5
      have HE5 := Lib.hid (SlE.below HE4.out hb5)
      have Hb5 := Lib.hid (Hb4.out.trans (hb5.mono Hb4.out.size))
      have hs4 := Hb4.out.size
      clear hr5 hb5 s0 s1 s2 HI4 HS4 HE4
      go_wp2
      go_ret3
      refine ⟨Hb5.out, ?_⟩
      rw [HD.out]
      simp only
      rw [HRS.out]
      exact ⟨_, _, rfl, own_base HR5.out hs4, HE5.out⟩
end Go.Proofs.YthmnhpakgjnngaaGreatDoor
