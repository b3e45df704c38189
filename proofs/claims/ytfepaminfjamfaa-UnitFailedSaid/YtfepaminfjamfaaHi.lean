/- UnitFailed: a call of the script, few -/
import Derived.Test.YtfepaminfjamfaaHh
namespace Go.Im
open Go.Fa
/-- a call of the law's script, but for its slices' values; dl: how long the message's data are -/
structure CF where
  op : Int
  mode : Int
  p : FP
  ms : Int
  md : Int
  mt : Int
  mq : Int
  m0 : Int
  m1 : Int
  m2 : Int
  m3 : Int
  dl : Nat
  a : Oc
  b : Oc
  pm : Bool
def CF.few (c : CF) : Bool := decide (c.a.im.length + c.a.ef.length ≤ 400) && decide (c.b.im.length + c.b.ef.length ≤ 400) && decide (c.dl ≤ 400)
end Go.Im
namespace Go.Proofs.Ytfepaminfjamfaa
open Go.RowKit Go.Bs Go.Cl Go.Rw Go.Un Go.Im Go.Fa
set_option maxRecDepth 100000 in
set_option maxHeartbeats 4000000 in
theorem few_any (c : CF) (ma ai ae bi be : Option Addr) (mc ac aec bc bec : Nat) (C : Nat) (w : World) (hd : c.dl ≤ 1000000000000000) (h1 : c.a.im.length ≤ 1000000000000000) (h2 : c.a.ef.length ≤ 1000000000000000) (h3 : c.b.im.length ≤ 1000000000000000) (h4 : c.b.ef.length ≤ 1000000000000000)
    (hC : w.heap[C]? = some (.cells #[.int .i64 c.op, .int .i64 c.mode, .int .i64 c.p.c, .int .i64 c.p.n, .int .i64 c.p.e, .int .i64 c.p.k, .int .i64 c.p.s, .int .i64 c.p.pl, .int .i64 c.p.m, .int .i64 c.ms, .int .i64 c.md, .int .i64 c.mt, .int .i64 c.mq, .int .i64 c.m0, .int .i64 c.m1, .int .i64 c.m2, .int .i64 c.m3, .slice ma c.dl mc, .int .i64 c.a.en, .int .i64 c.a.st, .int .i64 c.a.er, .slice ai c.a.im.length ac, .slice ae c.a.ef.length aec, .int .i64 c.b.en, .int .i64 c.b.st, .int .i64 c.b.er, .slice bi c.b.im.length bc, .slice be c.b.ef.length bec, .bool c.pm] 33 (0, 0))) :
    Calls Try.prog 6 #[.slice (some ⟨C, 0, none⟩) 1 1] w fun e w' => e = .returned (.bool c.few) ∧ Below w.heap.size w w' := by
  have HC := Lib.hid hC
  have hlt : C < w.heap.size := (Array.getElem?_eq_some_iff.1 hC).1
  clear hC
  have HL := Lib.hid (Below.refl w.heap.size w)
  go_enter Try.func6, Try.ntmps6
  go_wp2
  go_loopw [3] (fun i wr => (i = .int .i64 0 ∧ Below w.heap.size w wr) ∨ (i = .int .i64 1 ∧ Below w.heap.size w wr ∧ c.few = true)) (fun i _ => 1 - (intOf i).toNat)
  case atStart => exact .inl ⟨rfl, HL.out⟩
  case round =>
    rcases hrel with ⟨rfl, hb⟩ | ⟨rfl, hb, hfew⟩
    · have HB := Lib.hid hb
      have hz := hb.size
      have HCr := Lib.hid ((hb.block C hlt).trans HC.out)
      clear hb
      have c_0 : wr.cell? ⟨C, 0, none⟩ = some (.int .i64 c.op) := box_at HCr.out rfl
      have c_1 : wr.cell? ⟨C, 1, none⟩ = some (.int .i64 c.mode) := box_at HCr.out rfl
      have c_2 : wr.cell? ⟨C, 2, none⟩ = some (.int .i64 c.p.c) := box_at HCr.out rfl
      have c_3 : wr.cell? ⟨C, 3, none⟩ = some (.int .i64 c.p.n) := box_at HCr.out rfl
      have c_4 : wr.cell? ⟨C, 4, none⟩ = some (.int .i64 c.p.e) := box_at HCr.out rfl
      have c_5 : wr.cell? ⟨C, 5, none⟩ = some (.int .i64 c.p.k) := box_at HCr.out rfl
      have c_6 : wr.cell? ⟨C, 6, none⟩ = some (.int .i64 c.p.s) := box_at HCr.out rfl
      have c_7 : wr.cell? ⟨C, 7, none⟩ = some (.int .i64 c.p.pl) := box_at HCr.out rfl
      have c_8 : wr.cell? ⟨C, 8, none⟩ = some (.int .i64 c.p.m) := box_at HCr.out rfl
      have c_9 : wr.cell? ⟨C, 9, none⟩ = some (.int .i64 c.ms) := box_at HCr.out rfl
      have c_10 : wr.cell? ⟨C, 10, none⟩ = some (.int .i64 c.md) := box_at HCr.out rfl
      have c_11 : wr.cell? ⟨C, 11, none⟩ = some (.int .i64 c.mt) := box_at HCr.out rfl
      have c_12 : wr.cell? ⟨C, 12, none⟩ = some (.int .i64 c.mq) := box_at HCr.out rfl
      have c_13 : wr.cell? ⟨C, 13, none⟩ = some (.int .i64 c.m0) := box_at HCr.out rfl
      have c_14 : wr.cell? ⟨C, 14, none⟩ = some (.int .i64 c.m1) := box_at HCr.out rfl
      have c_15 : wr.cell? ⟨C, 15, none⟩ = some (.int .i64 c.m2) := box_at HCr.out rfl
      have c_16 : wr.cell? ⟨C, 16, none⟩ = some (.int .i64 c.m3) := box_at HCr.out rfl
      have c_17 : wr.cell? ⟨C, 17, none⟩ = some (.slice ma c.dl mc) := box_at HCr.out rfl
      have c_18 : wr.cell? ⟨C, 18, none⟩ = some (.int .i64 c.a.en) := box_at HCr.out rfl
      have c_19 : wr.cell? ⟨C, 19, none⟩ = some (.int .i64 c.a.st) := box_at HCr.out rfl
      have c_20 : wr.cell? ⟨C, 20, none⟩ = some (.int .i64 c.a.er) := box_at HCr.out rfl
      have c_21 : wr.cell? ⟨C, 21, none⟩ = some (.slice ai c.a.im.length ac) := box_at HCr.out rfl
      have c_22 : wr.cell? ⟨C, 22, none⟩ = some (.slice ae c.a.ef.length aec) := box_at HCr.out rfl
      have c_23 : wr.cell? ⟨C, 23, none⟩ = some (.int .i64 c.b.en) := box_at HCr.out rfl
      have c_24 : wr.cell? ⟨C, 24, none⟩ = some (.int .i64 c.b.st) := box_at HCr.out rfl
      have c_25 : wr.cell? ⟨C, 25, none⟩ = some (.int .i64 c.b.er) := box_at HCr.out rfl
      have c_26 : wr.cell? ⟨C, 26, none⟩ = some (.slice bi c.b.im.length bc) := box_at HCr.out rfl
      have c_27 : wr.cell? ⟨C, 27, none⟩ = some (.slice be c.b.ef.length bec) := box_at HCr.out rfl
      have c_28 : wr.cell? ⟨C, 28, none⟩ = some (.bool c.pm) := box_at HCr.out rfl
      go_wp2_with fail
      refine (few1_any c.a _ _ _ h1 h2 ⟨_, _, rfl⟩ ⟨_, _, rfl⟩).mono ?_
      rintro e w1 ⟨rfl, hb1⟩
      have hz1 := hb1.size
      have HB1 := Lib.hid (HB.out.trans (hb1.mono HB.out.size))
      have HC1 := Lib.hid ((hb1.block C (by omega)).trans HCr.out)
      clear hb1 HB HCr
      clear c_0 c_1 c_2 c_3 c_4 c_5 c_6 c_7 c_8 c_9 c_10 c_11 c_12 c_13 c_14 c_15 c_16 c_17 c_18 c_19 c_20 c_21 c_22 c_23 c_24 c_25 c_26 c_27 c_28
      have c_0 : w1.cell? ⟨C, 0, none⟩ = some (.int .i64 c.op) := box_at HC1.out rfl
      have c_1 : w1.cell? ⟨C, 1, none⟩ = some (.int .i64 c.mode) := box_at HC1.out rfl
      have c_2 : w1.cell? ⟨C, 2, none⟩ = some (.int .i64 c.p.c) := box_at HC1.out rfl
      have c_3 : w1.cell? ⟨C, 3, none⟩ = some (.int .i64 c.p.n) := box_at HC1.out rfl
      have c_4 : w1.cell? ⟨C, 4, none⟩ = some (.int .i64 c.p.e) := box_at HC1.out rfl
      have c_5 : w1.cell? ⟨C, 5, none⟩ = some (.int .i64 c.p.k) := box_at HC1.out rfl
      have c_6 : w1.cell? ⟨C, 6, none⟩ = some (.int .i64 c.p.s) := box_at HC1.out rfl
      have c_7 : w1.cell? ⟨C, 7, none⟩ = some (.int .i64 c.p.pl) := box_at HC1.out rfl
      have c_8 : w1.cell? ⟨C, 8, none⟩ = some (.int .i64 c.p.m) := box_at HC1.out rfl
      have c_9 : w1.cell? ⟨C, 9, none⟩ = some (.int .i64 c.ms) := box_at HC1.out rfl
      have c_10 : w1.cell? ⟨C, 10, none⟩ = some (.int .i64 c.md) := box_at HC1.out rfl
      have c_11 : w1.cell? ⟨C, 11, none⟩ = some (.int .i64 c.mt) := box_at HC1.out rfl
      have c_12 : w1.cell? ⟨C, 12, none⟩ = some (.int .i64 c.mq) := box_at HC1.out rfl
      have c_13 : w1.cell? ⟨C, 13, none⟩ = some (.int .i64 c.m0) := box_at HC1.out rfl
      have c_14 : w1.cell? ⟨C, 14, none⟩ = some (.int .i64 c.m1) := box_at HC1.out rfl
      have c_15 : w1.cell? ⟨C, 15, none⟩ = some (.int .i64 c.m2) := box_at HC1.out rfl
      have c_16 : w1.cell? ⟨C, 16, none⟩ = some (.int .i64 c.m3) := box_at HC1.out rfl
      have c_17 : w1.cell? ⟨C, 17, none⟩ = some (.slice ma c.dl mc) := box_at HC1.out rfl
      have c_18 : w1.cell? ⟨C, 18, none⟩ = some (.int .i64 c.a.en) := box_at HC1.out rfl
      have c_19 : w1.cell? ⟨C, 19, none⟩ = some (.int .i64 c.a.st) := box_at HC1.out rfl
      have c_20 : w1.cell? ⟨C, 20, none⟩ = some (.int .i64 c.a.er) := box_at HC1.out rfl
      have c_21 : w1.cell? ⟨C, 21, none⟩ = some (.slice ai c.a.im.length ac) := box_at HC1.out rfl
      have c_22 : w1.cell? ⟨C, 22, none⟩ = some (.slice ae c.a.ef.length aec) := box_at HC1.out rfl
      have c_23 : w1.cell? ⟨C, 23, none⟩ = some (.int .i64 c.b.en) := box_at HC1.out rfl
      have c_24 : w1.cell? ⟨C, 24, none⟩ = some (.int .i64 c.b.st) := box_at HC1.out rfl
      have c_25 : w1.cell? ⟨C, 25, none⟩ = some (.int .i64 c.b.er) := box_at HC1.out rfl
      have c_26 : w1.cell? ⟨C, 26, none⟩ = some (.slice bi c.b.im.length bc) := box_at HC1.out rfl
      have c_27 : w1.cell? ⟨C, 27, none⟩ = some (.slice be c.b.ef.length bec) := box_at HC1.out rfl
      have c_28 : w1.cell? ⟨C, 28, none⟩ = some (.bool c.pm) := box_at HC1.out rfl
      cases hf1 : decide (c.a.im.length + c.a.ef.length ≤ 400)
      · have HF := Lib.hid (show c.few = false by unfold CF.few; rw [hf1]; rfl)
        clear hf1
        go_wp2
        go_ret
        exact ⟨by rw [HF.out]; rfl, HB1.out⟩
      go_wp2_with fail
      refine (few1_any c.b _ _ _ h3 h4 ⟨_, _, rfl⟩ ⟨_, _, rfl⟩).mono ?_
      rintro e w2 ⟨rfl, hb2⟩
      have hz2 := hb2.size
      have HB2 := Lib.hid (HB1.out.trans (hb2.mono HB1.out.size))
      have HC2 := Lib.hid ((hb2.block C (by omega)).trans HC1.out)
      clear hb2 HB1 HC1
      clear c_0 c_1 c_2 c_3 c_4 c_5 c_6 c_7 c_8 c_9 c_10 c_11 c_12 c_13 c_14 c_15 c_16 c_17 c_18 c_19 c_20 c_21 c_22 c_23 c_24 c_25 c_26 c_27 c_28
      have c_0 : w2.cell? ⟨C, 0, none⟩ = some (.int .i64 c.op) := box_at HC2.out rfl
      have c_1 : w2.cell? ⟨C, 1, none⟩ = some (.int .i64 c.mode) := box_at HC2.out rfl
      have c_2 : w2.cell? ⟨C, 2, none⟩ = some (.int .i64 c.p.c) := box_at HC2.out rfl
      have c_3 : w2.cell? ⟨C, 3, none⟩ = some (.int .i64 c.p.n) := box_at HC2.out rfl
      have c_4 : w2.cell? ⟨C, 4, none⟩ = some (.int .i64 c.p.e) := box_at HC2.out rfl
      have c_5 : w2.cell? ⟨C, 5, none⟩ = some (.int .i64 c.p.k) := box_at HC2.out rfl
      have c_6 : w2.cell? ⟨C, 6, none⟩ = some (.int .i64 c.p.s) := box_at HC2.out rfl
      have c_7 : w2.cell? ⟨C, 7, none⟩ = some (.int .i64 c.p.pl) := box_at HC2.out rfl
      have c_8 : w2.cell? ⟨C, 8, none⟩ = some (.int .i64 c.p.m) := box_at HC2.out rfl
      have c_9 : w2.cell? ⟨C, 9, none⟩ = some (.int .i64 c.ms) := box_at HC2.out rfl
      have c_10 : w2.cell? ⟨C, 10, none⟩ = some (.int .i64 c.md) := box_at HC2.out rfl
      have c_11 : w2.cell? ⟨C, 11, none⟩ = some (.int .i64 c.mt) := box_at HC2.out rfl
      have c_12 : w2.cell? ⟨C, 12, none⟩ = some (.int .i64 c.mq) := box_at HC2.out rfl
      have c_13 : w2.cell? ⟨C, 13, none⟩ = some (.int .i64 c.m0) := box_at HC2.out rfl
      have c_14 : w2.cell? ⟨C, 14, none⟩ = some (.int .i64 c.m1) := box_at HC2.out rfl
      have c_15 : w2.cell? ⟨C, 15, none⟩ = some (.int .i64 c.m2) := box_at HC2.out rfl
      have c_16 : w2.cell? ⟨C, 16, none⟩ = some (.int .i64 c.m3) := box_at HC2.out rfl
      have c_17 : w2.cell? ⟨C, 17, none⟩ = some (.slice ma c.dl mc) := box_at HC2.out rfl
      have c_18 : w2.cell? ⟨C, 18, none⟩ = some (.int .i64 c.a.en) := box_at HC2.out rfl
      have c_19 : w2.cell? ⟨C, 19, none⟩ = some (.int .i64 c.a.st) := box_at HC2.out rfl
      have c_20 : w2.cell? ⟨C, 20, none⟩ = some (.int .i64 c.a.er) := box_at HC2.out rfl
      have c_21 : w2.cell? ⟨C, 21, none⟩ = some (.slice ai c.a.im.length ac) := box_at HC2.out rfl
      have c_22 : w2.cell? ⟨C, 22, none⟩ = some (.slice ae c.a.ef.length aec) := box_at HC2.out rfl
      have c_23 : w2.cell? ⟨C, 23, none⟩ = some (.int .i64 c.b.en) := box_at HC2.out rfl
      have c_24 : w2.cell? ⟨C, 24, none⟩ = some (.int .i64 c.b.st) := box_at HC2.out rfl
      have c_25 : w2.cell? ⟨C, 25, none⟩ = some (.int .i64 c.b.er) := box_at HC2.out rfl
      have c_26 : w2.cell? ⟨C, 26, none⟩ = some (.slice bi c.b.im.length bc) := box_at HC2.out rfl
      have c_27 : w2.cell? ⟨C, 27, none⟩ = some (.slice be c.b.ef.length bec) := box_at HC2.out rfl
      have c_28 : w2.cell? ⟨C, 28, none⟩ = some (.bool c.pm) := box_at HC2.out rfl
      cases hf2 : decide (c.b.im.length + c.b.ef.length ≤ 400)
      · have HF := Lib.hid (show c.few = false by unfold CF.few; rw [hf1, hf2]; rfl)
        clear hf1 hf2
        go_wp2
        go_ret
        exact ⟨by rw [HF.out]; rfl, HB2.out⟩
      by_cases hf3 : c.dl ≤ 400
      · have HF := Lib.hid (show c.few = true by unfold CF.few; rw [hf1, hf2]; simp [hf3])
        have hn : ¬ (400 : Int) < c.dl := by omega
        have hn' : ¬ ((c.dl : Int) > 400) := by omega
        clear hf1 hf2
        go_wp2
        go_roundw
        case rel => exact .inr ⟨by rfl, HB2.out, HF.out⟩
        case measure => simp [intOf]
      · have HF := Lib.hid (show c.few = false by unfold CF.few; rw [hf1, hf2]; simp [hf3])
        have hn : (400 : Int) < c.dl := by omega
        have hn' : ((c.dl : Int) > 400) := by omega
        clear hf1 hf2
        go_wp2
        go_ret
        exact ⟨by rw [HF.out]; rfl, HB2.out⟩
    · have HB := Lib.hid hb
      clear hb
      have HF := Lib.hid hfew
      clear hfew
      go_wp2
      go_ret
      exact ⟨by rw [HF.out]; rfl, HB.out⟩
end Go.Proofs.Ytfepaminfjamfaa
