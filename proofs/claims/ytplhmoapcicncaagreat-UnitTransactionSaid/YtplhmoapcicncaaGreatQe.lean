/- unit: a transaction -/
import Derived.Test.YtplhmoapcicncaaGreatQa
import Derived.Test.YtplhmoapcicncaaGreatHh
import Derived.Deep.CutRange
namespace Go.Im
open Go Go.RowKit Go.Bs Go.Cl Go.Rw Go.Un Go.Fa
/-- the unit ahead of the attempt k of a transaction -/
def TrK (x xk : Us) (n m : Nat) (k : Nat) : Prop := (k = 0 ∧ xk = x) ∨ (k = 1 ∧ xk.down = false ∧ xk.att = 2 ∧ xk.num = x.num ∧ xk.led = x.led ∧ xk.task = x.task ∧ xk.gr ≤ x.gr + 2 ∧ 0 ≤ xk.gr ∧ x.lost ≤ xk.lost ∧
  xk.lost ≤ x.lost + (4000 + 2 * cost n m 1 + 1 + acnt m + (acnt n + 1)))
variable {w : World}
theorem bytes_outO {F : List Nat} {v : Value} {l : List UInt8} {R : Nat} {c0 c1 c2 : Int} {ty : TypeId} {a1 a2 : Option Addr} {n1 n2 k1 k2 : Nat} (h : Bytes F w v l) (hR : w.heap[R]? = some (.cells #[.int .i64 c0, .int .i64 c1, .int .i64 c2, .slice a1 n1 k1, .slice a2 n2 k2] ty (0, 0))) : Bytes (R :: F) w v l := by
  obtain ⟨h1, h2, a, cap, rfl, h3, h4, h5⟩ := h
  refine ⟨h1, h2, a, cap, rfl, h3, h4, fun hp => ?_⟩
  obtain ⟨b, off, rfl, hb, hn, hc⟩ := h5 hp
  refine ⟨b, off, rfl, hb, fun hm => ?_, hc⟩
  rcases List.mem_cons.1 hm with rfl | hm
  · obtain ⟨x, l', rfl⟩ : ∃ x l', l = x :: l' := by
      cases l with
      | nil => exact absurd hp (Nat.lt_irrefl _)
      | cons x l' => exact ⟨x, l', rfl⟩
    have hx := hc 0 (byteV x) rfl
    rw [Nat.add_zero] at hx
    simp only [World.cell?, hR] at hx
    match off, hx with
    | 0, hx => simp [byteV] at hx
    | 1, hx => simp [byteV] at hx
    | 2, hx => simp [byteV] at hx
    | 3, hx => simp [byteV] at hx
    | 4, hx => simp [byteV] at hx
    | n + 5, hx => simp at hx
  · exact hn hm
theorem tin_len {q : FP} {y : Int} {im ms : List UInt8} {o t : Oc} {n : Nat} (h1 : o.im.length ≤ n) (h2 : o.ef.length ≤ n) (h3 : t.im.length ≤ n) (h4 : t.ef.length ≤ n) : (tin q y im ms o t).im.length ≤ n ∧ (tin q y im ms o t).ef.length ≤ n := by
  unfold tin; split
  · exact ⟨h1, h2⟩
  · exact ⟨h3, h4⟩
theorem trk_facts {x xk : Us} {n m k : Nat} (h : TrK x xk n m k) (hd : x.down = false) (ha : x.att = 1) : xk.down = false ∧ xk.num = x.num ∧ xk.led = x.led ∧ (xk.att = 1 ∨ xk.att = 2) ∧ xk.task = x.task := by
  rcases h with ⟨rfl, rfl⟩ | ⟨_, h1, h2, h3, h4, h5, _⟩
  · exact ⟨hd, rfl, rfl, .inl ha, rfl⟩
  · exact ⟨h1, h3, h4, .inr h2, h5⟩
theorem att_any {x xk : Us} {n m k : Nat} (h : TrK x xk n m k) (hd : x.down = false) (ha : x.att = 1) {im : List UInt8} {v : Nat} {p : FP} {sq : Int} {ms : List UInt8} {o t : Oc} {led : List Lg.Lt} (hs : Lg.seeL x.led 16 sq = (led, 1, 0))
    (ho1 : o.en = 0) (ho2 : o.er = 0) (ho3 : 3 ≤ o.st) (ho4 : o.st ≤ 400) (ht1 : 0 ≤ t.st) (ht2 : t.st ≤ 4000) (hm : o.im.length ≤ 24000) :
    (attU xk ⟨im, v, false, [], 0⟩ p sq ms o t).e = 0 ∧ (((attU xk ⟨im, v, false, [], 0⟩ p sq ms o t).c = 0 ∧ (attU xk ⟨im, v, false, [], 0⟩ p sq ms o t).x = { xk with led := led, num := xk.num + 1, att := 1 } ∧ (attU xk ⟨im, v, false, [], 0⟩ p sq ms o t).s = ⟨o.im, v + 1, false, [], 0⟩) ∨
      ((k = 0 ∧ xk = x) ∧ (attU xk ⟨im, v, false, [], 0⟩ p sq ms o t).c ≠ 0 ∧ ∃ st : Int, 0 ≤ st ∧ st ≤ 4000 + 2 * o.st + 1 + acnt o.im.length ∧ (attU xk ⟨im, v, false, [], 0⟩ p sq ms o t).x = downed xk st ∧ (attU xk ⟨im, v, false, [], 0⟩ p sq ms o t).s = ⟨im, v, false, [], 0⟩)) := by
  rcases h with ⟨rfl, rfl⟩ | ⟨_, h1, h2, h3, h4, h5, _⟩
  · obtain ⟨a, b⟩ := att_first (v := v) (im := im) (p := p) (ms := ms) hd hs ho1 ho2 (by omega) ho4 ht1 ht2 hm
    refine ⟨a, ?_⟩
    rcases b with b | b
    · exact .inl b
    · exact .inr ⟨⟨rfl, rfl⟩, b⟩
  · obtain ⟨a, b⟩ := att_clean (v := v) (im := im) (p := p) (ms := ms) (t := t) h1 (by rw [h2]; decide) (by rw [h4]; exact hs) ho1 ho2 ho4
    exact ⟨a, .inl b⟩
theorem trk_more {x xk : Us} {n m k : Nat} (h : TrK x xk n m k) (hg : 0 ≤ x.gr) : xk.gr ≤ x.gr + 2 ∧ 0 ≤ xk.gr ∧ x.lost ≤ xk.lost ∧ xk.lost ≤ x.lost + (4000 + 2 * cost n m 1 + 1 + acnt m + (acnt n + 1)) := by
  rcases h with ⟨rfl, rfl⟩ | ⟨_, h1, h2, h3, h4, h5, h6, h7, h8, h9⟩
  · have a := acnt_lo n
    have b := acnt_lo m
    have c : 0 ≤ cost n m 1 := by unfold cost; simp; omega
    exact ⟨by omega, hg, by omega, by omega⟩
  · exact ⟨h6, h7, h8, h9⟩
theorem trk_next {x : Us} {st mm : Int} {im : List UInt8} {v n m : Nat} (hd : x.down = false) (ha : x.att = 1) (hm : mm = 0 ∨ mm = 1) (hg : 0 ≤ x.gr) (hl0 : 0 ≤ x.lost) (hl1 : x.lost ≤ 1000000) (s0 : 0 ≤ st) (s1 : st ≤ 4000 + 2 * cost n m 1 + 1 + acnt m) (hn : n = im.length) (hil : im.length ≤ 1000) (hml : m ≤ 1000) :
    (rstU (downed x st) ⟨im, v, false, [], 0⟩ mm).2.2 = 0 ∧ TrK x (rstU (downed x st) ⟨im, v, false, [], 0⟩ mm).1 n m 1 := by
  subst hn
  have c := (cost_bound (n := im.length) (m := m) (by omega) (by omega)).2.1
  have a : acnt (im.length : Int) ≤ 190 := by unfold acnt; split <;> omega
  have b : acnt (m : Int) ≤ 190 := by unfold acnt; split <;> omega
  have a0 := acnt_lo im.length
  have w1 : wrap64 (x.lost + st) = x.lost + st := wrap_id (by omega) (by omega)
  have w2 : wrap64 (x.lost + st + (acnt im.length + 1)) = x.lost + st + (acnt im.length + 1) := wrap_id (by omega) (by omega)
  unfold rstU
  rw [if_neg (by show ¬ (downed x st).down = false; unfold downed; simp)]
  rcases hm with rfl | rfl
  · rw [if_pos rfl]
    refine ⟨rfl, .inr ⟨rfl, rfl, ?_, rfl, rfl, rfl, ?_, ?_, ?_, ?_⟩⟩
    · show x.att + 1 = 2; omega
    · show x.gr + 1 ≤ x.gr + 2; omega
    · show 0 ≤ x.gr + 1; omega
    · show x.lost ≤ wrap64 (wrap64 (x.lost + st) + (acnt im.length + 1)); rw [w1, w2]; omega
    · show wrap64 (wrap64 (x.lost + st) + (acnt im.length + 1)) ≤ _; rw [w1, w2]; omega
  · rw [if_neg (by decide), if_pos rfl]
    refine ⟨rfl, .inr ⟨rfl, rfl, ?_, rfl, rfl, rfl, ?_, ?_, ?_, ?_⟩⟩
    · show x.att + 1 = 2; omega
    · show x.gr + 2 ≤ x.gr + 2; omega
    · show 0 ≤ x.gr + 2; omega
    · show x.lost ≤ wrap64 (wrap64 (x.lost + st) + (acnt im.length + 1)); rw [w1, w2]; omega
    · show wrap64 (wrap64 (x.lost + st) + (acnt im.length + 1)) ≤ _; rw [w1, w2]; omega
theorem ULL.lt {w0 w : World} {u : Nat} {x : Us} {s : Ps} {rows : List (Value × List UInt8)} {L : List Nat} (H : ULL w0 u x s rows L w) : ∀ z ∈ L, z < w.heap.size := by
  obtain ⟨_, _, _, _, _, _, _, _, _, _, _, h6, _⟩ := H
  exact fun z hz => (h6 z hz).1
theorem ULL.sub {w0 w : World} {u : Nat} {x : Us} {s : Ps} {rows rows' : List (Value × List UInt8)} {L L' : List Nat} (H : ULL w0 u x s rows L w) (h : ∀ p ∈ rows', p ∈ rows) (hL : ∀ z ∈ L', z ∈ L) : ULL w0 u x s rows' L' w := by
  obtain ⟨h1, base, g, hh, iv, rv, lv, h2, h3, h4, h5, h6, h7⟩ := H
  refine ⟨h1, base, g, hh, iv, rv, lv, h2, h3, h4, fun p hp => h5 p (h p hp), fun z hz => h6 z (hL z hz), Raw.fresh h7 (fun f hf => ?_)⟩
  rcases List.mem_append.1 hf with hf | hf
  · exact .inl (List.mem_append_left _ (hL f hf))
  · exact .inl (List.mem_append_right _ hf)
end Go.Im
namespace Go.Proofs.YtplhmoapcicncaaGreat
open Go.RowKit Go.Bs Go.Cl Go.Rw Go.Un Go.Im Go.Fa Go.Wi
theorem ull_inputs {w0 w : World} {u : Nat} {x : Us} {s : Ps} {rows : List (Value × List UInt8)} {L : List Nat} (H : ULL w0 u x s rows L w) (p : FP) (ms md mk mq m0 m1 m2 m3 : Int) (mv : Value) (d : List UInt8) (hf : ∀ x ∈ [ms, md, mk, mq, m0, m1, m2, m3], fits x) (hd : d.length ≤ 1000) (hD : Bytes [] w mv d) :
    Calls Tryz.prog 32 #[.pointer (some ⟨u, 0, none⟩), .agg p.cs, .agg #[.int .i64 ms, .int .i64 md, .int .i64 mk, .int .i64 mq, .int .i64 m0, .int .i64 m1, .int .i64 m2, .int .i64 m3, mv]] w fun e w' => ∃ i0 i1 t0 t1, e = .returned (.tuple #[.agg #[i0, i1], .agg #[t0, t1]]) ∧
      OW w.heap.size w' i0 (finp (qof x p) 0 s.image (encM ms md mk mq m0 m1 m2 m3 d)).1 ∧ OW w.heap.size w' i1 (finp (qof x p) 1 s.image (encM ms md mk mq m0 m1 m2 m3 d)).1 ∧ OW w.heap.size w' t0 (finp (qof x p) 0 s.image (encM ms md mk mq m0 m1 m2 m3 d)).2 ∧ OW w.heap.size w' t1 (finp (qof x p) 1 s.image (encM ms md mk mq m0 m1 m2 m3 d)).2 ∧ Below w.heap.size w w' ∧ ULL w0 u x s rows L w' := by
  have hfit := H.fit
  have H' := H
  obtain ⟨_, base, g, h, iv, rv, lv, _, _, h4, _, _, _⟩ := H'
  refine (uinputs_any h4 p ms md mk mq m0 m1 m2 m3 mv d hf hd hD hfit).mono ?_
  rintro e w' ⟨i0, i1, t0, t1, rfl, h1, h2, h3, h5, hb⟩
  exact ⟨i0, i1, t0, t1, rfl, h1, h2, h3, h5, hb, H.below hb⟩
theorem ull_outc {w0 w : World} {u : Nat} {x : Us} {s : Ps} {rows : List (Value × List UInt8)} {L : List Nat} (H : ULL w0 u x s rows L w) (p : FP) (a b : Oc) (i1 e1 i2 e2 : Value) (hal : a.im.length ≤ 24000) (hael : a.ef.length ≤ 24000) (hbl : b.im.length ≤ 24000) (hbel : b.ef.length ≤ 24000) (hI1 : Bytes [] w i1 a.im) (hE1 : Bytes [] w e1 a.ef) (hI2 : Bytes [] w i2 b.im) (hE2 : Bytes [] w e2 b.ef) :
    Calls Tryz.prog 17 #[.pointer (some ⟨u, 0, none⟩), .agg p.cs, .agg #[.int .i64 a.en, .int .i64 a.st, .int .i64 a.er, i1, e1], .agg #[.int .i64 b.en, .int .i64 b.st, .int .i64 b.er, i2, e2]] w fun e w' => ∃ fa fb ia ea ib eb, fa = fout (qof x p) 0 a ∧ fb = fout (qof x p) 1 b ∧
      e = .returned (.tuple #[.agg #[.int .i64 fa.en, .int .i64 fa.st, .int .i64 fa.er, ia, ea], .agg #[.int .i64 fb.en, .int .i64 fb.st, .int .i64 fb.er, ib, eb]]) ∧ OW w.heap.size w' ia fa.im ∧ OW w.heap.size w' ea fa.ef ∧ OW w.heap.size w' ib fb.im ∧ OW w.heap.size w' eb fb.ef ∧ Below w.heap.size w w' := by
  have H' := H
  obtain ⟨_, base, g, h, iv, rv, lv, _, _, h4, _, _, _⟩ := H'
  refine (outcomes_any h4 p a b i1 e1 i2 e2 hal hael hbl hbel hI1 hE1 hI2 hE2).mono ?_
  rintro e w' ⟨fa, fb, ia, ea, ib, eb, hfa, hfb, rfl, o1, o2, o3, o4, hb⟩
  exact ⟨fa, fb, ia, ea, ib, eb, hfa, hfb, rfl, o1, o2, o3, o4, hb⟩
set_option maxRecDepth 100000 in
set_option maxHeartbeats 8000000 in
theorem transact_any {w0 w : World} {u : Nat} {x : Us} {im : List UInt8} {v : Nat} {rows : List (Value × List UInt8)} {L : List Nat} (H : ULL w0 u x ⟨im, v, false, [], 0⟩ rows L w) (p : FP) (t : Oc) (tiv tev nv fv : Value) (md : Int) (nx ef : List UInt8) (sq : Int)
    (hm0 : 0 ≤ md) (hm1 : md ≤ 255) (hTI : Bytes [] w0 tiv t.im) (hTE : Bytes [] w0 tev t.ef) (hN : Bytes [] w0 nv nx) (hE : Bytes [] w0 fv ef) (hil : im.length ≤ 1000) (hnl : nx.length ≤ 1000) (hfl : ef.length ≤ 1000) (htl : t.im.length ≤ 1000) (htl2 : t.ef.length ≤ 1000)
    (ht0 : 0 ≤ t.st) (ht1 : t.st ≤ 4000) (hd : x.down = false) (ha : x.att = 1) (hn0 : 1 ≤ x.num) (hn1 : x.num ≤ 1000) (hv : v ≤ 1000) (hg0 : 0 ≤ x.gr) (hg1 : x.gr ≤ 1000) (hll : x.led.length ≤ 100) (hsq : Lg.seenL x.led 16 + 1 = sq) (hsq0 : 1 ≤ sq) (hsq1 : sq ≤ 1000)
    {led : List Lg.Lt} (hse : Lg.seeL x.led 16 sq = (led, 1, 0)) (hlo0 : 0 ≤ x.lost) (hlo1 : x.lost ≤ 1000000) :
    Calls Tryz.prog 10 #[.pointer (some ⟨u, 0, none⟩), .agg #[.int .i64 p.c, .int .i64 p.n, .int .i64 p.e, .int .i64 p.k, .int .i64 p.s, .int .i64 p.pl, .int .i64 p.m, .int .i64 t.en, .int .i64 t.st, .int .i64 t.er, tiv, tev, .int .u8 md], nv, fv] w fun e w' => e = .returned (.bool true) ∧ ∃ x', x'.down = false ∧ x'.att = 1 ∧ x'.num = x.num + 1 ∧ x'.task = x.task ∧ x'.led = led ∧ x'.gr ≤ x.gr + 2 ∧ 0 ≤ x'.gr ∧ x.lost ≤ x'.lost ∧
      x'.lost ≤ x.lost + (4000 + 2 * cost im.length nx.length 1 + 1 + acnt nx.length + (acnt im.length + 1)) ∧ ULL w0 u x' ⟨nx, v + 1, false, [], 0⟩ rows L w' ∧ ∀ z ∈ L, w'.heap[z]? = w.heap[z]? := by
  obtain ⟨tia, tic, rfl⟩ := Raw.slice hTI
  obtain ⟨tea, tec, rfl⟩ := Raw.slice hTE
  obtain ⟨na, nc, rfl⟩ := Raw.slice hN
  obtain ⟨fa, fc, rfl⟩ := Raw.slice hE
  obtain ⟨X, hX⟩ : ∃ X, X = w.heap.size := ⟨_, rfl⟩
  obtain ⟨w1, hw1⟩ : ∃ W, W = w.alloc (.cells #[.int .i64 p.c, .int .i64 p.n, .int .i64 p.e, .int .i64 p.k, .int .i64 p.s, .int .i64 p.pl, .int .i64 p.m, .int .i64 t.en, .int .i64 t.st, .int .i64 t.er, .slice tia t.im.length tic, .slice tea t.ef.length tec, .int .u8 md] 36) := ⟨_, rfl⟩
  have bel1 : Below w.heap.size w w1 := by rw [hw1]; exact (Below.refl _ w).alloc (Nat.le_refl _) _
  have hxX : w1.heap[X]? = some (.cells #[.int .i64 p.c, .int .i64 p.n, .int .i64 p.e, .int .i64 p.k, .int .i64 p.s, .int .i64 p.pl, .int .i64 p.m, .int .i64 t.en, .int .i64 t.st, .int .i64 t.er, .slice tia t.im.length tic, .slice tea t.ef.length tec, .int .u8 md] 36 (0, 0)) := by rw [hw1, hX]; exact heap_alloc_new w _
  have hU1 := ((((H.arg hTI).arg hTE).arg hN).arg hE).own bel1 [X] (fun z hz => by rw [List.mem_singleton.1 hz]; subst hX; rw [hw1]; simp)
  have HX1 := Lib.hid (hxX)
  have HU1 := Lib.hid (hU1)
  have HW := Lib.hid hw1
  have HRX := Lib.hid hX
  clear hw1 hX hxX hU1
  go_enter Tryz.func10, Tryz.ntmps10
  go_upto_region 1 with (fail)
  rw [← HW.out, ← HRX.out]
  clear HW HRX
  go_wp2_with fail
  refine (ull_ledger HU1.out (by omega)).mono ?_
  rintro e w2 ⟨la2, lc2, rfl, hb2, hSL2, hU2⟩
  clear HU1
  have HX2 := Lib.hid ((hb2.block X (Array.getElem?_eq_some_iff.1 HX1.out).1).trans HX1.out)
  clear HX1
  have bel2 := bel1.trans (hb2.mono bel1.size)
  have HU2 := Lib.hid (hU2)
  clear hU2
  have HS2 := Lib.hid (hSL2)
  clear hSL2 hb2
  go_wp2_with fail
  refine (Ldg.seen_any _ x.led 16 _ (by omega) HS2.out).mono ?_
  rintro e w3 ⟨rfl, hb3⟩
  have HX3 := Lib.hid ((hb3.block X (Array.getElem?_eq_some_iff.1 HX2.out).1).trans HX2.out)
  have HU3 := Lib.hid (ULL.below HU2.out hb3)
  have HS3 := Lib.hid (Lg.SlL.below HS2.out hb3)
  clear HX2 HU2 HS2
  have bel3 := bel2.trans (hb3.mono bel2.size)
  clear hb3
  clear HS3
  obtain ⟨z, hz⟩ : ∃ z, Lg.seenL x.led 16 = z := ⟨_, rfl⟩
  rw [hz] at hsq ⊢
  clear hz
  go_wp2_with fail
  refine (message_any _ _).mono ?_
  rintro e w4 ⟨rfl, hb4⟩
  have HX4 := Lib.hid ((hb4.block X (Array.getElem?_eq_some_iff.1 HX3.out).1).trans HX3.out)
  have HU4 := Lib.hid (ULL.below HU3.out hb4)
  clear HX3 HU3
  have bel4 := bel3.trans (hb4.mono bel3.size)
  clear hb4
  clear hsq
  obtain ⟨M, hM⟩ : ∃ O, O = w4.heap.size := ⟨_, rfl⟩
  obtain ⟨w5, hw5⟩ : ∃ W, W = w4.alloc (.cells #[.int .i64 16, .int .i64 6, .int .i64 6, .int .i64 sq, .int .i64 0, .int .i64 0, .int .i64 0, .int .i64 0, .slice none 0 0] 46) := ⟨_, rfl⟩
  have hb5 : Below w4.heap.size w4 w5 := by rw [hw5]; exact (Below.refl _ _).alloc (Nat.le_refl _) _
  have hxM : w5.heap[M]? = some (.cells #[.int .i64 16, .int .i64 6, .int .i64 6, .int .i64 sq, .int .i64 0, .int .i64 0, .int .i64 0, .int .i64 0, .slice none 0 0] 46 (0, 0)) := by rw [hw5, hM]; exact heap_alloc_new w4 _
  have HW5 := Lib.hid hw5
  have HRM := Lib.hid hM
  have hz5 : w5.heap.size = w4.heap.size + 1 := by rw [hw5]; simp
  have HLM : Hid (w4.heap.size ≤ M ∧ M < w5.heap.size) := Lib.hid (by omega)
  have HZ5 := Lib.hid hz5
  clear hw5 hM hz5
  go_upto_region 2 with (fail)
  rw [← HW5.out, ← HRM.out]
  clear HW5 HRM 
  have hU5 := HU4.out.own hb5 [M] (fun z hz => by rw [List.mem_singleton.1 hz]; exact HLM.out)
  clear HU4
  have HX5 := Lib.hid ((hb5.block X (Array.getElem?_eq_some_iff.1 HX4.out).1).trans HX4.out)
  clear HX4
  have bel5 := bel4.trans (hb5.mono bel4.size)
  have HU5 := Lib.hid (hU5)
  clear hU5
  have HM5 := Lib.hid (hxM)
  clear hb5 hxM
  go_wp2_with fail
  refine (ull_image HU5.out).mono ?_
  rintro e w6 ⟨ia6, ic6, rfl, hb6, hU6⟩
  clear HU5
  have HX6 := Lib.hid ((hb6.block X (Array.getElem?_eq_some_iff.1 HX5.out).1).trans HX5.out)
  have HM6 := Lib.hid ((hb6.block M (Array.getElem?_eq_some_iff.1 HM5.out).1).trans HM5.out)
  clear HX5 HM5
  have bel6 := bel5.trans (hb6.mono bel5.size)
  have HU6 := Lib.hid (hU6)
  clear hU6
  clear hb6
  have hR6 := HU6.out.bytes (v := .slice ia6 im.length ic6) (l := im) (by simp)
  have hN6 := HU6.out.bytes (v := .slice na nx.length nc) (l := nx) (by simp)
  have hE6 := HU6.out.bytes (v := .slice fa ef.length fc) (l := ef) (by simp)
  go_wp2_with fail
  refine (normal_any [] im nx ef _ _ _ 1 (by omega) _ (by omega) (by omega) (by omega) hR6 hN6 hE6).mono ?_
  rintro e w7 ⟨v7, y7, rfl, hr7, hr7', hb7⟩
  clear hR6 hN6 hE6
  obtain ⟨o, ho⟩ : ∃ o : Oc, o = ⟨0, cost im.length nx.length 1, 0, nx, ef⟩ := ⟨_, rfl⟩
  have ho1 : o.st = cost im.length nx.length 1 := by rw [ho]
  have ho2 : o.im = nx := by rw [ho]
  have ho3 : o.ef = ef := by rw [ho]
  obtain ⟨oa, oc, rfl⟩ := own_slice hr7
  obtain ⟨pa, pc, rfl⟩ := own_slice hr7'
  rw [← ho1]
  rw [← ho2] at hr7
  rw [← ho3] at hr7'
  have hU7 := HU6.out.more hb7 [(.slice oa o.im.length oc, o.im), (.slice pa o.ef.length pc, o.ef)] (fun q hq => by
    rcases List.mem_cons.1 hq with rfl | hq
    · exact ⟨5, hr7⟩
    · rw [List.mem_singleton.1 hq]; exact ⟨5, hr7'⟩) [] (fun z hz => by cases hz)
  rw [← ho2, ← ho3]
  have HOO := Lib.hid ho
  clear HU6 ho ho1 ho2 ho3 hr7 hr7'
  have HX7 := Lib.hid ((hb7.block X (Array.getElem?_eq_some_iff.1 HX6.out).1).trans HX6.out)
  have HM7 := Lib.hid ((hb7.block M (Array.getElem?_eq_some_iff.1 HM6.out).1).trans HM6.out)
  clear HX6 HM6
  have bel7 := bel6.trans (hb7.mono bel6.size)
  have HU7 := Lib.hid (hU7)
  clear hU7 hb7
  obtain ⟨O, hO⟩ : ∃ O, O = w7.heap.size := ⟨_, rfl⟩
  obtain ⟨w8, hw8⟩ : ∃ W, W = w7.alloc (.cells #[.int .i64 0, .int .i64 o.st, .int .i64 0, .slice oa o.im.length oc, .slice pa o.ef.length pc] 50) := ⟨_, rfl⟩
  have hb8 : Below w7.heap.size w7 w8 := by rw [hw8]; exact (Below.refl _ _).alloc (Nat.le_refl _) _
  have hxO : w8.heap[O]? = some (.cells #[.int .i64 0, .int .i64 o.st, .int .i64 0, .slice oa o.im.length oc, .slice pa o.ef.length pc] 50 (0, 0)) := by rw [hw8, hO]; exact heap_alloc_new w7 _
  have HW8 := Lib.hid hw8
  have HRO := Lib.hid hO
  have hz8 : w8.heap.size = w7.heap.size + 1 := by rw [hw8]; simp
  have HLO : Hid (w7.heap.size ≤ O ∧ O < w8.heap.size) := Lib.hid (by omega)
  have HZ8 := Lib.hid hz8
  clear hw8 hO hz8
  go_upto_region 3 with (fail)
  rw [← HW8.out, ← HRO.out]
  clear HW8 HRO 
  have hU8 := HU7.out.own hb8 [O] (fun z hz => by rw [List.mem_singleton.1 hz]; exact HLO.out)
  clear HU7
  have HX8 := Lib.hid ((hb8.block X (Array.getElem?_eq_some_iff.1 HX7.out).1).trans HX7.out)
  have HM8 := Lib.hid ((hb8.block M (Array.getElem?_eq_some_iff.1 HM7.out).1).trans HM7.out)
  clear HX7 HM7
  have bel8 := bel7.trans (hb8.mono bel7.size)
  have HU8 := Lib.hid (hU8)
  clear hU8
  have HO8 := Lib.hid (hxO)
  clear hb8 hxO
  have cX_0 := box_at HX8.out (j := 0) rfl
  have cX_1 := box_at HX8.out (j := 1) rfl
  have cX_2 := box_at HX8.out (j := 2) rfl
  have cX_3 := box_at HX8.out (j := 3) rfl
  have cX_4 := box_at HX8.out (j := 4) rfl
  have cX_5 := box_at HX8.out (j := 5) rfl
  have cX_6 := box_at HX8.out (j := 6) rfl
  have cX_7 := box_at HX8.out (j := 7) rfl
  have cX_8 := box_at HX8.out (j := 8) rfl
  have cX_9 := box_at HX8.out (j := 9) rfl
  have cX_10 := box_at HX8.out (j := 10) rfl
  have cX_11 := box_at HX8.out (j := 11) rfl
  have cX_12 := box_at HX8.out (j := 12) rfl
  obtain ⟨Q, hQ⟩ : ∃ O, O = w8.heap.size := ⟨_, rfl⟩
  obtain ⟨w9, hw9⟩ : ∃ W, W = w8.alloc (.cells #[.int .i64 p.c, .int .i64 p.n, .int .i64 p.e, .int .i64 p.k, .int .i64 p.s, .int .i64 p.pl, .int .i64 p.m] 49) := ⟨_, rfl⟩
  have hb9 : Below w8.heap.size w8 w9 := by rw [hw9]; exact (Below.refl _ _).alloc (Nat.le_refl _) _
  have hxQ : w9.heap[Q]? = some (.cells #[.int .i64 p.c, .int .i64 p.n, .int .i64 p.e, .int .i64 p.k, .int .i64 p.s, .int .i64 p.pl, .int .i64 p.m] 49 (0, 0)) := by rw [hw9, hQ]; exact heap_alloc_new w8 _
  have HW9 := Lib.hid hw9
  have HRQ := Lib.hid hQ
  have hz9 : w9.heap.size = w8.heap.size + 1 := by rw [hw9]; simp
  have HLQ : Hid (w8.heap.size ≤ Q ∧ Q < w9.heap.size) := Lib.hid (by omega)
  have HZ9 := Lib.hid hz9
  clear hw9 hQ hz9
  go_upto_region 4 with (fail)
  rw [← HW9.out, ← HRQ.out]
  clear HW9 HRQ 
  clear cX_0 cX_1 cX_2 cX_3 cX_4 cX_5 cX_6 cX_7 cX_8 cX_9 cX_10 cX_11 cX_12
  have hU9 := HU8.out.own hb9 [Q] (fun z hz => by rw [List.mem_singleton.1 hz]; exact HLQ.out)
  clear HU8
  have HX9 := Lib.hid ((hb9.block X (Array.getElem?_eq_some_iff.1 HX8.out).1).trans HX8.out)
  have HM9 := Lib.hid ((hb9.block M (Array.getElem?_eq_some_iff.1 HM8.out).1).trans HM8.out)
  have HO9 := Lib.hid ((hb9.block O (Array.getElem?_eq_some_iff.1 HO8.out).1).trans HO8.out)
  clear HX8 HM8 HO8
  have bel9 := bel8.trans (hb9.mono bel8.size)
  have HU9 := Lib.hid (hU9)
  clear hU9
  have HQ9 := Lib.hid (hxQ)
  clear hb9 hxQ
  obtain ⟨R, hR⟩ : ∃ R, R = [(Value.slice oa o.im.length oc, o.im), (Value.slice pa o.ef.length pc, o.ef)] ++ ((Value.slice ia6 im.length ic6, im) :: (Value.slice fa ef.length fc, ef) :: (Value.slice na nx.length nc, nx) :: (Value.slice tea t.ef.length tec, t.ef) :: (Value.slice tia t.im.length tic, t.im) :: rows) := ⟨_, rfl⟩
  obtain ⟨LL, hLL⟩ : ∃ LL, LL = [Q] ++ ([O] ++ ([] ++ ([M] ++ ([X] ++ L)))) := ⟨_, rfl⟩
  have HU : Hid (ULL w0 u x ⟨im, v, false, [], 0⟩ R LL w9) := Lib.hid (by rw [hR, hLL]; exact HU9.out)
  have MR1 : Hid ((Value.slice oa o.im.length oc, o.im) ∈ R) := Lib.hid (by rw [hR]; simp)
  have MR2 : Hid ((Value.slice pa o.ef.length pc, o.ef) ∈ R) := Lib.hid (by rw [hR]; simp)
  have MR3 : Hid ((Value.slice tia t.im.length tic, t.im) ∈ R) := Lib.hid (by rw [hR]; simp)
  have MR4 : Hid ((Value.slice tea t.ef.length tec, t.ef) ∈ R) := Lib.hid (by rw [hR]; simp)
  have MRs : Hid (∀ q ∈ rows, q ∈ R) := Lib.hid (fun q hq => by rw [hR]; simp [hq])
  have ML1 : Hid (X ∈ LL) := Lib.hid (by rw [hLL]; simp)
  have ML2 : Hid (M ∈ LL) := Lib.hid (by rw [hLL]; simp)
  have ML3 : Hid (O ∈ LL) := Lib.hid (by rw [hLL]; simp)
  have ML4 : Hid (Q ∈ LL) := Lib.hid (by rw [hLL]; simp)
  have MLs : Hid (∀ q ∈ L, q ∈ LL) := Lib.hid (fun q hq => by rw [hLL]; simp [hq])
  clear hR hLL HU9
  go_wp2
  go_loopw [12] (fun i wr => ∃ k : Nat, k ≤ 1 ∧ i = .int .i64 k ∧ ∃ xk, TrK x xk im.length nx.length k ∧ ULL w0 u xk ⟨im, v, false, [], 0⟩ R LL wr ∧ ∀ z ∈ LL, wr.heap[z]? = w9.heap[z]?) (fun i _ => 2 - (intOf i).toNat)
  case atStart => exact ⟨0, by omega, rfl, x, .inl ⟨rfl, rfl⟩, HU.out, fun _ _ => rfl⟩
  case round =>
    rename World => w20
    obtain ⟨k, hk, rfl, xk, hTr, hU, hLk⟩ := hrel
    have HLT := Lib.hid hU.lt
    have HTr := Lib.hid hTr
    have HLK := Lib.hid hLk
    have HU20 := Lib.hid (hU)
    have hxX := (hLk X ML1.out).trans HX9.out
    have HX20 := Lib.hid (hxX)
    have hxM := (hLk M ML2.out).trans HM9.out
    have HM20 := Lib.hid (hxM)
    have hxO := (hLk O ML3.out).trans HO9.out
    have HO20 := Lib.hid (hxO)
    have hxQ := (hLk Q ML4.out).trans HQ9.out
    have HQ20 := Lib.hid (hxQ)
    have bel20 := Below.refl w20.heap.size w20
    have HLO4 := Lib.hid (And.intro (Array.getElem?_eq_some_iff.1 hxX).1 (And.intro (Array.getElem?_eq_some_iff.1 hxM).1 (And.intro (Array.getElem?_eq_some_iff.1 hxO).1 (Array.getElem?_eq_some_iff.1 hxQ).1)))
    clear hTr hU hLk hxX hxM hxO hxQ
    obtain ⟨en, hen⟩ : ∃ l, encM 16 6 6 sq 0 0 0 0 [] = l := ⟨_, rfl⟩
    have hel : en.length ≤ 2000 := by rw [← hen]; exact Nat.le_trans (encM_len (by intro z hz; simp at hz; unfold fits; omega) (by simp)) (by omega)
    have HEN := Lib.hid hen
    clear hen
    have cM_0 := box_at HM20.out (j := 0) rfl
    have cM_1 := box_at HM20.out (j := 1) rfl
    have cM_2 := box_at HM20.out (j := 2) rfl
    have cM_3 := box_at HM20.out (j := 3) rfl
    have cM_4 := box_at HM20.out (j := 4) rfl
    have cM_5 := box_at HM20.out (j := 5) rfl
    have cM_6 := box_at HM20.out (j := 6) rfl
    have cM_7 := box_at HM20.out (j := 7) rfl
    have cM_8 := box_at HM20.out (j := 8) rfl
    have cQ_0 := box_at HQ20.out (j := 0) rfl
    have cQ_1 := box_at HQ20.out (j := 1) rfl
    have cQ_2 := box_at HQ20.out (j := 2) rfl
    have cQ_3 := box_at HQ20.out (j := 3) rfl
    have cQ_4 := box_at HQ20.out (j := 4) rfl
    have cQ_5 := box_at HQ20.out (j := 5) rfl
    have cQ_6 := box_at HQ20.out (j := 6) rfl
    go_wp2_with fail
    refine (ull_inputs HU20.out p 16 6 6 sq 0 0 0 0 _ [] (by intro z hz; simp at hz; unfold fits; omega) (by simp) (Raw.empty _ _ _)).mono ?_
    rintro e w21 ⟨ci0, ci1, ct0, ct1, rfl, hc1, hc2, hc3, hc4, hb21, hU21⟩
    rw [HEN.out] at hc1 hc2 hc3 hc4
    clear cM_0 cM_1 cM_2 cM_3 cM_4 cM_5 cM_6 cM_7 cM_8 cQ_0 cQ_1 cQ_2 cQ_3 cQ_4 cQ_5 cQ_6
    clear HU20
    have HX21 := Lib.hid ((hb21.block X (Array.getElem?_eq_some_iff.1 HX20.out).1).trans HX20.out)
    have HM21 := Lib.hid ((hb21.block M (Array.getElem?_eq_some_iff.1 HM20.out).1).trans HM20.out)
    have HO21 := Lib.hid ((hb21.block O (Array.getElem?_eq_some_iff.1 HO20.out).1).trans HO20.out)
    have HQ21 := Lib.hid ((hb21.block Q (Array.getElem?_eq_some_iff.1 HQ20.out).1).trans HQ20.out)
    clear HX20 HM20 HO20 HQ20
    have bel21 := bel20.trans (hb21.mono bel20.size)
    have HU21 := Lib.hid (hU21)
    clear hU21 hb21
    have Hci0_21 := Lib.hid (show Bytes [] w21 ci0 _ from Bytes.row hc1 rfl (fun f hf => by cases hf))
    have Hci1_21 := Lib.hid (show Bytes [] w21 ci1 _ from Bytes.row hc2 rfl (fun f hf => by cases hf))
    have Hct0_21 := Lib.hid (show Bytes [] w21 ct0 _ from Bytes.row hc3 rfl (fun f hf => by cases hf))
    have Hct1_21 := Lib.hid (show Bytes [] w21 ct1 _ from Bytes.row hc4 rfl (fun f hf => by cases hf))
    obtain ⟨ci0a, ci0c, rfl⟩ := Raw.slice Hci0_21.out
    obtain ⟨ci1a, ci1c, rfl⟩ := Raw.slice Hci1_21.out
    obtain ⟨ct0a, ct0c, rfl⟩ := Raw.slice Hct0_21.out
    obtain ⟨ct1a, ct1c, rfl⟩ := Raw.slice Hct1_21.out
    clear hc1 hc2 hc3 hc4
    obtain ⟨C1, hC1⟩ : ∃ O, O = w21.heap.size := ⟨_, rfl⟩
    obtain ⟨w22, hw22⟩ : ∃ W, W = w21.alloc (.cells #[.slice ci0a (finp (qof xk p) 0 im en).1.length ci0c, .slice ci1a (finp (qof xk p) 1 im en).1.length ci1c] 26) := ⟨_, rfl⟩
    have hb22 : Below w21.heap.size w21 w22 := by rw [hw22]; exact (Below.refl _ _).alloc (Nat.le_refl _) _
    have hxC1 : w22.heap[C1]? = some (.cells #[.slice ci0a (finp (qof xk p) 0 im en).1.length ci0c, .slice ci1a (finp (qof xk p) 1 im en).1.length ci1c] 26 (0, 0)) := by rw [hw22, hC1]; exact heap_alloc_new w21 _
    have HW22 := Lib.hid hw22
    have HRC1 := Lib.hid hC1
    have hz22 : w22.heap.size = w21.heap.size + 1 := by rw [hw22]; simp
    have HLC1 : Hid (w21.heap.size ≤ C1 ∧ C1 < w22.heap.size) := Lib.hid (by omega)
    have HZ22 := Lib.hid hz22
    clear hw22 hC1 hz22
    have HX22 := Lib.hid ((hb22.block X (Array.getElem?_eq_some_iff.1 HX21.out).1).trans HX21.out)
    have HM22 := Lib.hid ((hb22.block M (Array.getElem?_eq_some_iff.1 HM21.out).1).trans HM21.out)
    have HO22 := Lib.hid ((hb22.block O (Array.getElem?_eq_some_iff.1 HO21.out).1).trans HO21.out)
    have HQ22 := Lib.hid ((hb22.block Q (Array.getElem?_eq_some_iff.1 HQ21.out).1).trans HQ21.out)
    have HU22 := Lib.hid (ULL.below HU21.out hb22)
    have Hci0_22 := Lib.hid (Raw.below Hci0_21.out hb22)
    have Hci1_22 := Lib.hid (Raw.below Hci1_21.out hb22)
    have Hct0_22 := Lib.hid (Raw.below Hct0_21.out hb22)
    have Hct1_22 := Lib.hid (Raw.below Hct1_21.out hb22)
    clear HX21 HM21 HO21 HQ21 HU21 Hci0_21 Hci1_21 Hct0_21 Hct1_21
    have bel22 := bel21.trans (hb22.mono bel21.size)
    have HC122 := Lib.hid (hxC1)
    clear hb22 hxC1
    obtain ⟨C2, hC2⟩ : ∃ O, O = w22.heap.size := ⟨_, rfl⟩
    obtain ⟨w23, hw23⟩ : ∃ W, W = w22.alloc (.cells #[.slice ct0a (finp (qof xk p) 0 im en).2.length ct0c, .slice ct1a (finp (qof xk p) 1 im en).2.length ct1c] 26) := ⟨_, rfl⟩
    have hb23 : Below w22.heap.size w22 w23 := by rw [hw23]; exact (Below.refl _ _).alloc (Nat.le_refl _) _
    have hxC2 : w23.heap[C2]? = some (.cells #[.slice ct0a (finp (qof xk p) 0 im en).2.length ct0c, .slice ct1a (finp (qof xk p) 1 im en).2.length ct1c] 26 (0, 0)) := by rw [hw23, hC2]; exact heap_alloc_new w22 _
    have HW23 := Lib.hid hw23
    have HRC2 := Lib.hid hC2
    have hz23 : w23.heap.size = w22.heap.size + 1 := by rw [hw23]; simp
    have HLC2 : Hid (w22.heap.size ≤ C2 ∧ C2 < w23.heap.size) := Lib.hid (by omega)
    have HZ23 := Lib.hid hz23
    clear hw23 hC2 hz23
    go_upto_region 8 with (fail)
    rw [← HW22.out]
    clear HW22
    rw [← HRC1.out]
    clear HRC1
    have hptr : C2 = C1 + 1 := by have h1 := HLC1.out; have h2 := HRC2.out; have h3 := HZ22.out; have h4 := HLC1.out; omega
    rw [← HW23.out, ← hptr]
    clear HW23 HRC2 hptr
    have HX23 := Lib.hid ((hb23.block X (Array.getElem?_eq_some_iff.1 HX22.out).1).trans HX22.out)
    have HM23 := Lib.hid ((hb23.block M (Array.getElem?_eq_some_iff.1 HM22.out).1).trans HM22.out)
    have HO23 := Lib.hid ((hb23.block O (Array.getElem?_eq_some_iff.1 HO22.out).1).trans HO22.out)
    have HQ23 := Lib.hid ((hb23.block Q (Array.getElem?_eq_some_iff.1 HQ22.out).1).trans HQ22.out)
    have HU23 := Lib.hid (ULL.below HU22.out hb23)
    have Hci0_23 := Lib.hid (Raw.below Hci0_22.out hb23)
    have Hci1_23 := Lib.hid (Raw.below Hci1_22.out hb23)
    have Hct0_23 := Lib.hid (Raw.below Hct0_22.out hb23)
    have Hct1_23 := Lib.hid (Raw.below Hct1_22.out hb23)
    have HC123 := Lib.hid ((hb23.block C1 (Array.getElem?_eq_some_iff.1 HC122.out).1).trans HC122.out)
    clear HX22 HM22 HO22 HQ22 HU22 Hci0_22 Hci1_22 Hct0_22 Hct1_22 HC122
    have bel23 := bel22.trans (hb23.mono bel22.size)
    have HC223 := Lib.hid (hxC2)
    clear hb23 hxC2
    have HUA := Lib.hid HU23.out
    have HBZ23 := Lib.hid (Below.refl w23.heap.size w23)
    clear HU23
    go_cut [15, 16] from 46 to 47 (fun s15 s16 wx => ∃ Oa Ob : Nat, s15 = .pointer (some ⟨Oa, 0, none⟩) ∧ s16 = .pointer (some ⟨Ob, 0, none⟩) ∧ wx.heap[Oa]? = some (.cells #[.int .i64 0, .int .i64 o.st, .int .i64 0, .slice oa o.im.length oc, .slice pa o.ef.length pc] 50 (0, 0)) ∧ wx.heap[Ob]? = some (.cells #[.int .i64 0, .int .i64 o.st, .int .i64 0, .slice oa o.im.length oc, .slice pa o.ef.length pc] 50 (0, 0)) ∧ Oa ≠ Ob ∧ w23.heap.size ≤ Oa ∧ w23.heap.size ≤ Ob ∧ Below w23.heap.size w23 wx)
    case first =>
      have hBl := show ∀ q ∈ [O], ∃ cc e f, w23.heap[q]? = some (.cells cc e f) from fun q hq => by rw [List.mem_singleton.1 hq]; exact ⟨_, _, _, HO23.out⟩
      refine Txt.Ty.wp_tree [O] [0, 1] [] [0, 1] [0, 1] (.alt [2] (.alt [3] (.alt [4] (.alt [5] (.done) (.no)) (.no)) (.no)) (.alt [3] (.alt [2] (.alt [4] (.alt [5] (.done) (.no)) (.no)) (.no)) (.no))) (by kernel_rfl) (by kernel_rfl) (by kernel_rfl) (by kernel_rfl) hBl ?_
      obtain ⟨y0, hy0⟩ : ∃ y, y = w23.drew := ⟨_, rfl⟩
      have HS0 : Hid (Txt.SameB [O] y0 y0) := Lib.hid (by rw [hy0]; exact same_start hBl)
      have hd0 : Below w23.heap.size w23 y0 := by rw [hy0]; exact (Below.refl _ _).drew
      have HO0 := Lib.hid ((hd0.block O (Array.getElem?_eq_some_iff.1 HO23.out).1).trans HO23.out)
      have HD0 := Lib.hid hd0
      rw [← hy0]
      clear hBl hy0 hd0
      have o_0 := box_at HO0.out (j := 0) rfl
      have o_1 := box_at HO0.out (j := 1) rfl
      have o_2 := box_at HO0.out (j := 2) rfl
      have o_3 := box_at HO0.out (j := 3) rfl
      have o_4 := box_at HO0.out (j := 4) rfl
      (try simp only [Txt.pick, List.getElem?_cons_succ, List.getElem?_cons_zero])
      go_wp2
      refine Txt.RunPost.mk ?_
      refine Txt.Ty.wpTr_alt ?_ (Txt.Ty.wpTr_alt ?_ Txt.Ty.wpTr_no)
      · (try simp only [Txt.pick, List.getElem?_cons_succ, List.getElem?_cons_zero])
        go_wp2
        obtain ⟨Oa, hOa⟩ : ∃ O, O = y0.heap.size := ⟨_, rfl⟩
        obtain ⟨y1, hy1⟩ : ∃ Y, Y = y0.alloc (.cells #[.int .i64 0, .int .i64 0, .int .i64 0, .slice none 0 0, .slice none 0 0] 50) := ⟨_, rfl⟩
        have b1 : Below y0.heap.size y0 y1 := by rw [hy1]; exact (Below.refl _ _).alloc (Nat.le_refl _) _
        have hA1 : y1.heap[Oa]? = some (.cells #[.int .i64 0, .int .i64 0, .int .i64 0, .slice none 0 0, .slice none 0 0] 50 (0, 0)) := by rw [hy1, hOa]; exact heap_alloc_new y0 _
        have z1 : y1.heap.size = y0.heap.size + 1 := by rw [hy1]; simp
        have HS1 := Lib.hid (same_below' HS0.out b1)
        have HA1 := Lib.hid hA1
        have HB1 := Lib.hid b1
        have HZ1 := Lib.hid z1
        have HA := Lib.hid hOa
        rw [← hy1, ← hOa]
        clear hy1 hA1 b1 z1 hOa o_0 o_1 o_2 o_3 o_4
        refine Txt.SegPost.mk (Txt.Ty.Shown.same HS1.out) ?_
        (try simp only [Txt.pick, List.getElem?_cons_succ, List.getElem?_cons_zero])
        go_wp2
        refine Txt.RunPost.mk ?_
        refine Txt.Ty.wpTr_alt ?_ Txt.Ty.wpTr_no
        (try simp only [Txt.pick, List.getElem?_cons_succ, List.getElem?_cons_zero])
        go_wp2
        obtain ⟨Ob, hOb⟩ : ∃ O, O = y1.heap.size := ⟨_, rfl⟩
        obtain ⟨y2, hy2⟩ : ∃ Y, Y = y1.alloc (.cells #[.int .i64 0, .int .i64 0, .int .i64 0, .slice none 0 0, .slice none 0 0] 50) := ⟨_, rfl⟩
        have b2 : Below y1.heap.size y1 y2 := by rw [hy2]; exact (Below.refl _ _).alloc (Nat.le_refl _) _
        have hB2 : y2.heap[Ob]? = some (.cells #[.int .i64 0, .int .i64 0, .int .i64 0, .slice none 0 0, .slice none 0 0] 50 (0, 0)) := by rw [hy2, hOb]; exact heap_alloc_new y1 _
        have HS2 := Lib.hid (same_below' HS1.out b2)
        have HA2 := Lib.hid ((b2.block Oa (by have := HA.out; have := HZ1.out; omega)).trans HA1.out)
        have HB2 := Lib.hid hB2
        have HBE2 := Lib.hid (HB1.out.trans (b2.mono HB1.out.size))
        have HNE : Hid (Oa ≠ Ob) := Lib.hid (by have := HA.out; have := HZ1.out; omega)
        have HBv := Lib.hid hOb
        rw [← hy2, ← hOb]
        clear hy2 hB2 b2 hOb HA1 HB1 HS1
        refine Txt.SegPost.mk (Txt.Ty.Shown.same HS2.out) ?_
        (try simp only [Txt.pick, List.getElem?_cons_succ, List.getElem?_cons_zero])
        go_wp2
        refine Txt.RunPost.mk ?_
        have a_0 := box_at HA2.out (j := 0) rfl
        have f_0 := box_free HA2.out 0
        have a_1 := box_at HA2.out (j := 1) rfl
        have f_1 := box_free HA2.out 1
        have a_2 := box_at HA2.out (j := 2) rfl
        have f_2 := box_free HA2.out 2
        have a_3 := box_at HA2.out (j := 3) rfl
        have f_3 := box_free HA2.out 3
        have a_4 := box_at HA2.out (j := 4) rfl
        have f_4 := box_free HA2.out 4
        refine Txt.Ty.wpTr_alt ?_ Txt.Ty.wpTr_no
        (try simp only [Txt.pick, List.getElem?_cons_succ, List.getElem?_cons_zero])
        go_wp2
        obtain ⟨y3, hy3⟩ : ∃ Y, Y = (((((y2.setCell ⟨Oa, 0, none⟩ (.int .i64 0)).setCell ⟨Oa, 1, none⟩ (.int .i64 o.st)).setCell ⟨Oa, 2, none⟩ (.int .i64 0)).setCell ⟨Oa, 3, none⟩ (.slice oa o.im.length oc)).setCell ⟨Oa, 4, none⟩ (.slice pa o.ef.length pc)) := ⟨_, rfl⟩
        have K3 : Keep [Oa] y2 y3 := by rw [hy3]; exact ((((((Keep.refl [Oa] y2).setCell (.inl (by simp)) _).setCell (.inl (by simp)) _).setCell (.inl (by simp)) _).setCell (.inl (by simp)) _).setCell (.inl (by simp)) _)
        have HO3 : Hid (y3.heap[Oa]? = some (.cells #[.int .i64 0, .int .i64 o.st, .int .i64 0, .slice oa o.im.length oc, .slice pa o.ef.length pc] 50 (0, 0))) := Lib.hid (by rw [hy3]; exact (heap_setCell_same _ _ 4 _ 50 _ (heap_setCell_same _ _ 3 _ 50 _ (heap_setCell_same _ _ 2 _ 50 _ (heap_setCell_same _ _ 1 _ 50 _ (heap_setCell_same _ _ 0 _ 50 _ HA2.out))))))
        have HP3 := Lib.hid ((K3.block Ob (Array.getElem?_eq_some_iff.1 HB2.out).1 (by intro h; rw [List.mem_singleton] at h; have := HNE.out; omega)).trans HB2.out)
        have hOy : O < y0.heap.size := (Array.getElem?_eq_some_iff.1 HO0.out).1
        have HS3 := Lib.hid (same_keep HS2.out K3 (fun q hq => by rw [List.mem_singleton.1 hq]; intro h; rw [List.mem_singleton] at h; have := HA.out; have := HBv.out; have := HZ1.out; omega))
        have HBE3 := Lib.hid (HBE2.out.trans (K3.below HBE2.out.size (fun f hf => by rw [List.mem_singleton.1 hf]; have := HA.out; have := HBv.out; have := HZ1.out; omega)))
        rw [← hy3]
        clear hy3 K3 a_0 f_0 a_1 f_1 a_2 f_2 a_3 f_3 a_4 f_4 HA2 HB2 HS2 HBE2
        refine Txt.SegPost.mk (Txt.Ty.Shown.same HS3.out) ?_
        (try simp only [Txt.pick, List.getElem?_cons_succ, List.getElem?_cons_zero])
        go_wp2
        refine Txt.RunPost.mk ?_
        have a_0 := box_at HP3.out (j := 0) rfl
        have f_0 := box_free HP3.out 0
        have a_1 := box_at HP3.out (j := 1) rfl
        have f_1 := box_free HP3.out 1
        have a_2 := box_at HP3.out (j := 2) rfl
        have f_2 := box_free HP3.out 2
        have a_3 := box_at HP3.out (j := 3) rfl
        have f_3 := box_free HP3.out 3
        have a_4 := box_at HP3.out (j := 4) rfl
        have f_4 := box_free HP3.out 4
        refine Txt.Ty.wpTr_alt ?_ Txt.Ty.wpTr_no
        (try simp only [Txt.pick, List.getElem?_cons_succ, List.getElem?_cons_zero])
        go_wp2
        obtain ⟨y4, hy4⟩ : ∃ Y, Y = (((((y3.setCell ⟨Ob, 0, none⟩ (.int .i64 0)).setCell ⟨Ob, 1, none⟩ (.int .i64 o.st)).setCell ⟨Ob, 2, none⟩ (.int .i64 0)).setCell ⟨Ob, 3, none⟩ (.slice oa o.im.length oc)).setCell ⟨Ob, 4, none⟩ (.slice pa o.ef.length pc)) := ⟨_, rfl⟩
        have K4 : Keep [Ob] y3 y4 := by rw [hy4]; exact ((((((Keep.refl [Ob] y3).setCell (.inl (by simp)) _).setCell (.inl (by simp)) _).setCell (.inl (by simp)) _).setCell (.inl (by simp)) _).setCell (.inl (by simp)) _)
        have HP4 : Hid (y4.heap[Ob]? = some (.cells #[.int .i64 0, .int .i64 o.st, .int .i64 0, .slice oa o.im.length oc, .slice pa o.ef.length pc] 50 (0, 0))) := Lib.hid (by rw [hy4]; exact (heap_setCell_same _ _ 4 _ 50 _ (heap_setCell_same _ _ 3 _ 50 _ (heap_setCell_same _ _ 2 _ 50 _ (heap_setCell_same _ _ 1 _ 50 _ (heap_setCell_same _ _ 0 _ 50 _ HP3.out))))))
        have HO4 := Lib.hid ((K4.block Oa (Array.getElem?_eq_some_iff.1 HO3.out).1 (by intro h; rw [List.mem_singleton] at h; have := HNE.out; omega)).trans HO3.out)
        have HS4 := Lib.hid (same_keep HS3.out K4 (fun q hq => by rw [List.mem_singleton.1 hq]; intro h; rw [List.mem_singleton] at h; have := HA.out; have := HBv.out; have := HZ1.out; omega))
        have HBE4 := Lib.hid (HBE3.out.trans (K4.below HBE3.out.size (fun f hf => by rw [List.mem_singleton.1 hf]; have := HA.out; have := HBv.out; have := HZ1.out; omega)))
        rw [← hy4]
        clear hy4 K4 a_0 f_0 a_1 f_1 a_2 f_2 a_3 f_3 a_4 f_4 HO3 HP3 HS3 HBE3
        refine Txt.SegPost.mk (Txt.Ty.Shown.same HS4.out) ?_
        (try simp only [Txt.pick, List.getElem?_cons_succ, List.getElem?_cons_zero])
        go_wp2
        refine Txt.RunPost.mk ?_
        refine Txt.Ty.wpTr_done (by rfl) ⟨.head _, .head _, trivial⟩ ?_
        go_wp2
        go_meet
        case rel => exact ⟨Oa, Ob, rfl, rfl, HO4.out, HP4.out, by have := HNE.out; omega, by have := HA.out; have := HBv.out; have := HZ1.out; have := HD0.out.size; omega, by have := HA.out; have := HBv.out; have := HZ1.out; have := HD0.out.size; omega, HD0.out.trans (HBE4.out.mono HD0.out.size)⟩
      · (try simp only [Txt.pick, List.getElem?_cons_succ, List.getElem?_cons_zero])
        go_wp2
        obtain ⟨Ob, hOb⟩ : ∃ O, O = y0.heap.size := ⟨_, rfl⟩
        obtain ⟨y1, hy1⟩ : ∃ Y, Y = y0.alloc (.cells #[.int .i64 0, .int .i64 0, .int .i64 0, .slice none 0 0, .slice none 0 0] 50) := ⟨_, rfl⟩
        have b1 : Below y0.heap.size y0 y1 := by rw [hy1]; exact (Below.refl _ _).alloc (Nat.le_refl _) _
        have hA1 : y1.heap[Ob]? = some (.cells #[.int .i64 0, .int .i64 0, .int .i64 0, .slice none 0 0, .slice none 0 0] 50 (0, 0)) := by rw [hy1, hOb]; exact heap_alloc_new y0 _
        have z1 : y1.heap.size = y0.heap.size + 1 := by rw [hy1]; simp
        have HS1 := Lib.hid (same_below' HS0.out b1)
        have HA1 := Lib.hid hA1
        have HB1 := Lib.hid b1
        have HZ1 := Lib.hid z1
        have HA := Lib.hid hOb
        rw [← hy1, ← hOb]
        clear hy1 hA1 b1 z1 hOb o_0 o_1 o_2 o_3 o_4
        refine Txt.SegPost.mk (Txt.Ty.Shown.same HS1.out) ?_
        (try simp only [Txt.pick, List.getElem?_cons_succ, List.getElem?_cons_zero])
        go_wp2
        refine Txt.RunPost.mk ?_
        refine Txt.Ty.wpTr_alt ?_ Txt.Ty.wpTr_no
        (try simp only [Txt.pick, List.getElem?_cons_succ, List.getElem?_cons_zero])
        go_wp2
        obtain ⟨Oa, hOa⟩ : ∃ O, O = y1.heap.size := ⟨_, rfl⟩
        obtain ⟨y2, hy2⟩ : ∃ Y, Y = y1.alloc (.cells #[.int .i64 0, .int .i64 0, .int .i64 0, .slice none 0 0, .slice none 0 0] 50) := ⟨_, rfl⟩
        have b2 : Below y1.heap.size y1 y2 := by rw [hy2]; exact (Below.refl _ _).alloc (Nat.le_refl _) _
        have hB2 : y2.heap[Oa]? = some (.cells #[.int .i64 0, .int .i64 0, .int .i64 0, .slice none 0 0, .slice none 0 0] 50 (0, 0)) := by rw [hy2, hOa]; exact heap_alloc_new y1 _
        have HS2 := Lib.hid (same_below' HS1.out b2)
        have HA2 := Lib.hid ((b2.block Ob (by have := HA.out; have := HZ1.out; omega)).trans HA1.out)
        have HB2 := Lib.hid hB2
        have HBE2 := Lib.hid (HB1.out.trans (b2.mono HB1.out.size))
        have HNE : Hid (Ob ≠ Oa) := Lib.hid (by have := HA.out; have := HZ1.out; omega)
        have HBv := Lib.hid hOa
        rw [← hy2, ← hOa]
        clear hy2 hB2 b2 hOa HA1 HB1 HS1
        refine Txt.SegPost.mk (Txt.Ty.Shown.same HS2.out) ?_
        (try simp only [Txt.pick, List.getElem?_cons_succ, List.getElem?_cons_zero])
        go_wp2
        refine Txt.RunPost.mk ?_
        have a_0 := box_at HB2.out (j := 0) rfl
        have f_0 := box_free HB2.out 0
        have a_1 := box_at HB2.out (j := 1) rfl
        have f_1 := box_free HB2.out 1
        have a_2 := box_at HB2.out (j := 2) rfl
        have f_2 := box_free HB2.out 2
        have a_3 := box_at HB2.out (j := 3) rfl
        have f_3 := box_free HB2.out 3
        have a_4 := box_at HB2.out (j := 4) rfl
        have f_4 := box_free HB2.out 4
        refine Txt.Ty.wpTr_alt ?_ Txt.Ty.wpTr_no
        (try simp only [Txt.pick, List.getElem?_cons_succ, List.getElem?_cons_zero])
        go_wp2
        obtain ⟨y3, hy3⟩ : ∃ Y, Y = (((((y2.setCell ⟨Oa, 0, none⟩ (.int .i64 0)).setCell ⟨Oa, 1, none⟩ (.int .i64 o.st)).setCell ⟨Oa, 2, none⟩ (.int .i64 0)).setCell ⟨Oa, 3, none⟩ (.slice oa o.im.length oc)).setCell ⟨Oa, 4, none⟩ (.slice pa o.ef.length pc)) := ⟨_, rfl⟩
        have K3 : Keep [Oa] y2 y3 := by rw [hy3]; exact ((((((Keep.refl [Oa] y2).setCell (.inl (by simp)) _).setCell (.inl (by simp)) _).setCell (.inl (by simp)) _).setCell (.inl (by simp)) _).setCell (.inl (by simp)) _)
        have HO3 : Hid (y3.heap[Oa]? = some (.cells #[.int .i64 0, .int .i64 o.st, .int .i64 0, .slice oa o.im.length oc, .slice pa o.ef.length pc] 50 (0, 0))) := Lib.hid (by rw [hy3]; exact (heap_setCell_same _ _ 4 _ 50 _ (heap_setCell_same _ _ 3 _ 50 _ (heap_setCell_same _ _ 2 _ 50 _ (heap_setCell_same _ _ 1 _ 50 _ (heap_setCell_same _ _ 0 _ 50 _ HB2.out))))))
        have HP3 := Lib.hid ((K3.block Ob (Array.getElem?_eq_some_iff.1 HA2.out).1 (by intro h; rw [List.mem_singleton] at h; have := HNE.out; omega)).trans HA2.out)
        have hOy : O < y0.heap.size := (Array.getElem?_eq_some_iff.1 HO0.out).1
        have HS3 := Lib.hid (same_keep HS2.out K3 (fun q hq => by rw [List.mem_singleton.1 hq]; intro h; rw [List.mem_singleton] at h; have := HA.out; have := HBv.out; have := HZ1.out; omega))
        have HBE3 := Lib.hid (HBE2.out.trans (K3.below HBE2.out.size (fun f hf => by rw [List.mem_singleton.1 hf]; have := HA.out; have := HBv.out; have := HZ1.out; omega)))
        rw [← hy3]
        clear hy3 K3 a_0 f_0 a_1 f_1 a_2 f_2 a_3 f_3 a_4 f_4 HA2 HB2 HS2 HBE2
        refine Txt.SegPost.mk (Txt.Ty.Shown.same HS3.out) ?_
        (try simp only [Txt.pick, List.getElem?_cons_succ, List.getElem?_cons_zero])
        go_wp2
        refine Txt.RunPost.mk ?_
        have a_0 := box_at HP3.out (j := 0) rfl
        have f_0 := box_free HP3.out 0
        have a_1 := box_at HP3.out (j := 1) rfl
        have f_1 := box_free HP3.out 1
        have a_2 := box_at HP3.out (j := 2) rfl
        have f_2 := box_free HP3.out 2
        have a_3 := box_at HP3.out (j := 3) rfl
        have f_3 := box_free HP3.out 3
        have a_4 := box_at HP3.out (j := 4) rfl
        have f_4 := box_free HP3.out 4
        refine Txt.Ty.wpTr_alt ?_ Txt.Ty.wpTr_no
        (try simp only [Txt.pick, List.getElem?_cons_succ, List.getElem?_cons_zero])
        go_wp2
        obtain ⟨y4, hy4⟩ : ∃ Y, Y = (((((y3.setCell ⟨Ob, 0, none⟩ (.int .i64 0)).setCell ⟨Ob, 1, none⟩ (.int .i64 o.st)).setCell ⟨Ob, 2, none⟩ (.int .i64 0)).setCell ⟨Ob, 3, none⟩ (.slice oa o.im.length oc)).setCell ⟨Ob, 4, none⟩ (.slice pa o.ef.length pc)) := ⟨_, rfl⟩
        have K4 : Keep [Ob] y3 y4 := by rw [hy4]; exact ((((((Keep.refl [Ob] y3).setCell (.inl (by simp)) _).setCell (.inl (by simp)) _).setCell (.inl (by simp)) _).setCell (.inl (by simp)) _).setCell (.inl (by simp)) _)
        have HP4 : Hid (y4.heap[Ob]? = some (.cells #[.int .i64 0, .int .i64 o.st, .int .i64 0, .slice oa o.im.length oc, .slice pa o.ef.length pc] 50 (0, 0))) := Lib.hid (by rw [hy4]; exact (heap_setCell_same _ _ 4 _ 50 _ (heap_setCell_same _ _ 3 _ 50 _ (heap_setCell_same _ _ 2 _ 50 _ (heap_setCell_same _ _ 1 _ 50 _ (heap_setCell_same _ _ 0 _ 50 _ HP3.out))))))
        have HO4 := Lib.hid ((K4.block Oa (Array.getElem?_eq_some_iff.1 HO3.out).1 (by intro h; rw [List.mem_singleton] at h; have := HNE.out; omega)).trans HO3.out)
        have HS4 := Lib.hid (same_keep HS3.out K4 (fun q hq => by rw [List.mem_singleton.1 hq]; intro h; rw [List.mem_singleton] at h; have := HA.out; have := HBv.out; have := HZ1.out; omega))
        have HBE4 := Lib.hid (HBE3.out.trans (K4.below HBE3.out.size (fun f hf => by rw [List.mem_singleton.1 hf]; have := HA.out; have := HBv.out; have := HZ1.out; omega)))
        rw [← hy4]
        clear hy4 K4 a_0 f_0 a_1 f_1 a_2 f_2 a_3 f_3 a_4 f_4 HO3 HP3 HS3 HBE3
        refine Txt.SegPost.mk (Txt.Ty.Shown.same HS4.out) ?_
        (try simp only [Txt.pick, List.getElem?_cons_succ, List.getElem?_cons_zero])
        go_wp2
        refine Txt.RunPost.mk ?_
        refine Txt.Ty.wpTr_done (by rfl) ⟨.head _, .head _, trivial⟩ ?_
        go_wp2
        go_meet
        case rel => exact ⟨Oa, Ob, rfl, rfl, HO4.out, HP4.out, by have := HNE.out; omega, by have := HA.out; have := HBv.out; have := HZ1.out; have := HD0.out.size; omega, by have := HA.out; have := HBv.out; have := HZ1.out; have := HD0.out.size; omega, HD0.out.trans (HBE4.out.mono HD0.out.size)⟩
    case rest =>
      have ANci0_ := Lib.hid Hci0_23.out
      clear Hci0_23
      have ANci1_ := Lib.hid Hci1_23.out
      clear Hci1_23
      have ANct0_ := Lib.hid Hct0_23.out
      clear Hct0_23
      have ANct1_ := Lib.hid Hct1_23.out
      clear Hct1_23
      obtain ⟨Oa, Ob, rfl, rfl, hxOa, hxOb, hne, hlo, hlp, hbz⟩ := hcut
      rename World => w24
      have HX24 := Lib.hid ((hbz.block X (Array.getElem?_eq_some_iff.1 HX23.out).1).trans HX23.out)
      have HM24 := Lib.hid ((hbz.block M (Array.getElem?_eq_some_iff.1 HM23.out).1).trans HM23.out)
      have HO24 := Lib.hid ((hbz.block O (Array.getElem?_eq_some_iff.1 HO23.out).1).trans HO23.out)
      have HQ24 := Lib.hid ((hbz.block Q (Array.getElem?_eq_some_iff.1 HQ23.out).1).trans HQ23.out)
      have HC124 := Lib.hid ((hbz.block C1 (Array.getElem?_eq_some_iff.1 HC123.out).1).trans HC123.out)
      have HC224 := Lib.hid ((hbz.block C2 (Array.getElem?_eq_some_iff.1 HC223.out).1).trans HC223.out)
      have HBZ24 := Lib.hid ((HBZ23.out).trans (hbz.mono (HBZ23.out).size))
      clear HX23 HM23 HO23 HQ23 HC123 HC223 HBZ23
      have bel24 := bel23.trans (hbz.mono bel23.size)
      have HOa24 := Lib.hid (hxOa)
      have HOb24 := Lib.hid (hxOb)
      have HNE := Lib.hid hne
      have HLOa := Lib.hid hlo
      have HLOb := Lib.hid hlp
      have HLO2 := Lib.hid (And.intro (Array.getElem?_eq_some_iff.1 hxOa).1 (Array.getElem?_eq_some_iff.1 hxOb).1)
      clear hxOa hxOb hne hlo hlp hbz
      have hqn : qof xk FP.none = FP.none := by unfold qof; split <;> rfl
      have HQN := Lib.hid hqn
      clear hqn
      have cM_0 := box_at HM24.out (j := 0) rfl
      have cM_1 := box_at HM24.out (j := 1) rfl
      have cM_2 := box_at HM24.out (j := 2) rfl
      have cM_3 := box_at HM24.out (j := 3) rfl
      have cM_4 := box_at HM24.out (j := 4) rfl
      have cM_5 := box_at HM24.out (j := 5) rfl
      have cM_6 := box_at HM24.out (j := 6) rfl
      have cM_7 := box_at HM24.out (j := 7) rfl
      have cM_8 := box_at HM24.out (j := 8) rfl
      go_wp2_with fail
      refine (ull_inputs (HUA.out.below HBZ24.out) FP.none 16 6 6 sq 0 0 0 0 _ [] (by intro z hz; simp at hz; unfold fits; omega) (by simp) (Raw.empty _ _ _)).mono ?_
      rintro e w25 ⟨di0, di1, dt0, dt1, rfl, h1, h2, h3, h4, hb25, _⟩
      rw [HEN.out, HQN.out, finp_none] at h1 h2 h3 h4
      clear cM_0 cM_1 cM_2 cM_3 cM_4 cM_5 cM_6 cM_7 cM_8
      have HX25 := Lib.hid ((hb25.block X (Array.getElem?_eq_some_iff.1 HX24.out).1).trans HX24.out)
      have HM25 := Lib.hid ((hb25.block M (Array.getElem?_eq_some_iff.1 HM24.out).1).trans HM24.out)
      have HO25 := Lib.hid ((hb25.block O (Array.getElem?_eq_some_iff.1 HO24.out).1).trans HO24.out)
      have HQ25 := Lib.hid ((hb25.block Q (Array.getElem?_eq_some_iff.1 HQ24.out).1).trans HQ24.out)
      have HC125 := Lib.hid ((hb25.block C1 (Array.getElem?_eq_some_iff.1 HC124.out).1).trans HC124.out)
      have HC225 := Lib.hid ((hb25.block C2 (Array.getElem?_eq_some_iff.1 HC224.out).1).trans HC224.out)
      have HBZ25 := Lib.hid ((HBZ24.out).trans (hb25.mono (HBZ24.out).size))
      have HOa25 := Lib.hid ((hb25.block Oa (Array.getElem?_eq_some_iff.1 HOa24.out).1).trans HOa24.out)
      have HOb25 := Lib.hid ((hb25.block Ob (Array.getElem?_eq_some_iff.1 HOb24.out).1).trans HOb24.out)
      clear HX24 HM24 HO24 HQ24 HC124 HC224 HBZ24 HOa24 HOb24
      have bel25 := bel24.trans (hb25.mono bel24.size)
      have HSZ := Lib.hid hb25.size
      obtain ⟨di0a, di0c, rfl⟩ := own_slice (show w25.ownsRow _ 5 1 di0 _ _ from h1)
      have hdi0 : w25.ownsRow w24.heap.size 5 1 (.slice di0a im.length di0c) im.length (bytesV im) := h1
      have Hdi0_25 := Lib.hid hdi0
      obtain ⟨di1a, di1c, rfl⟩ := own_slice (show w25.ownsRow _ 5 1 di1 _ _ from h2)
      have hdi1 : w25.ownsRow w24.heap.size 5 1 (.slice di1a im.length di1c) im.length (bytesV im) := h2
      have Hdi1_25 := Lib.hid hdi1
      obtain ⟨dt0a, dt0c, rfl⟩ := own_slice (show w25.ownsRow _ 5 1 dt0 _ _ from h3)
      have hdt0 : w25.ownsRow w24.heap.size 5 1 (.slice dt0a en.length dt0c) en.length (bytesV en) := h3
      have Hdt0_25 := Lib.hid hdt0
      obtain ⟨dt1a, dt1c, rfl⟩ := own_slice (show w25.ownsRow _ 5 1 dt1 _ _ from h4)
      have hdt1 : w25.ownsRow w24.heap.size 5 1 (.slice dt1a en.length dt1c) en.length (bytesV en) := h4
      have Hdt1_25 := Lib.hid hdt1
      clear h1 h2 h3 h4 hb25 hdi0 hdi1 hdt0 hdt1
      obtain ⟨D1, hD1⟩ : ∃ O, O = w25.heap.size := ⟨_, rfl⟩
      obtain ⟨w26, hw26⟩ : ∃ W, W = w25.alloc (.cells #[.slice di0a im.length di0c, .slice di1a im.length di1c] 26) := ⟨_, rfl⟩
      have hb26 : Below w25.heap.size w25 w26 := by rw [hw26]; exact (Below.refl _ _).alloc (Nat.le_refl _) _
      have hxD1 : w26.heap[D1]? = some (.cells #[.slice di0a im.length di0c, .slice di1a im.length di1c] 26 (0, 0)) := by rw [hw26, hD1]; exact heap_alloc_new w25 _
      have HW26 := Lib.hid hw26
      have HRD1 := Lib.hid hD1
      have hz26 : w26.heap.size = w25.heap.size + 1 := by rw [hw26]; simp
      have HLD1 : Hid (w25.heap.size ≤ D1 ∧ D1 < w26.heap.size) := Lib.hid (by omega)
      have HZ26 := Lib.hid hz26
      clear hw26 hD1 hz26
      have HX26 := Lib.hid ((hb26.block X (Array.getElem?_eq_some_iff.1 HX25.out).1).trans HX25.out)
      have HM26 := Lib.hid ((hb26.block M (Array.getElem?_eq_some_iff.1 HM25.out).1).trans HM25.out)
      have HO26 := Lib.hid ((hb26.block O (Array.getElem?_eq_some_iff.1 HO25.out).1).trans HO25.out)
      have HQ26 := Lib.hid ((hb26.block Q (Array.getElem?_eq_some_iff.1 HQ25.out).1).trans HQ25.out)
      have HC126 := Lib.hid ((hb26.block C1 (Array.getElem?_eq_some_iff.1 HC125.out).1).trans HC125.out)
      have HC226 := Lib.hid ((hb26.block C2 (Array.getElem?_eq_some_iff.1 HC225.out).1).trans HC225.out)
      have HBZ26 := Lib.hid ((HBZ25.out).trans (hb26.mono (HBZ25.out).size))
      have HOa26 := Lib.hid ((hb26.block Oa (Array.getElem?_eq_some_iff.1 HOa25.out).1).trans HOa25.out)
      have HOb26 := Lib.hid ((hb26.block Ob (Array.getElem?_eq_some_iff.1 HOb25.out).1).trans HOb25.out)
      have Hdi0_26 := Lib.hid (own_below Hdi0_25.out hb26 (Nat.le_refl _))
      have Hdi1_26 := Lib.hid (own_below Hdi1_25.out hb26 (Nat.le_refl _))
      have Hdt0_26 := Lib.hid (own_below Hdt0_25.out hb26 (Nat.le_refl _))
      have Hdt1_26 := Lib.hid (own_below Hdt1_25.out hb26 (Nat.le_refl _))
      clear HX25 HM25 HO25 HQ25 HC125 HC225 HBZ25 HOa25 HOb25 Hdi0_25 Hdi1_25 Hdt0_25 Hdt1_25
      have bel26 := bel25.trans (hb26.mono bel25.size)
      have HD126 := Lib.hid (hxD1)
      clear hb26 hxD1
      obtain ⟨D2, hD2⟩ : ∃ O, O = w26.heap.size := ⟨_, rfl⟩
      obtain ⟨w27, hw27⟩ : ∃ W, W = w26.alloc (.cells #[.slice dt0a en.length dt0c, .slice dt1a en.length dt1c] 26) := ⟨_, rfl⟩
      have hb27 : Below w26.heap.size w26 w27 := by rw [hw27]; exact (Below.refl _ _).alloc (Nat.le_refl _) _
      have hxD2 : w27.heap[D2]? = some (.cells #[.slice dt0a en.length dt0c, .slice dt1a en.length dt1c] 26 (0, 0)) := by rw [hw27, hD2]; exact heap_alloc_new w26 _
      have HW27 := Lib.hid hw27
      have HRD2 := Lib.hid hD2
      have hz27 : w27.heap.size = w26.heap.size + 1 := by rw [hw27]; simp
      have HLD2 : Hid (w26.heap.size ≤ D2 ∧ D2 < w27.heap.size) := Lib.hid (by omega)
      have HZ27 := Lib.hid hz27
      clear hw27 hD2 hz27
      go_upto_region 10 with (fail)
      rw [← HW26.out]
      clear HW26
      rw [← HRD1.out]
      clear HRD1
      have hptr : D2 = D1 + 1 := by have h1 := HLD1.out; have h2 := HRD2.out; have h3 := HZ26.out; omega
      rw [← HW27.out, ← hptr]
      clear HW27 HRD2 hptr
      have HX27 := Lib.hid ((hb27.block X (Array.getElem?_eq_some_iff.1 HX26.out).1).trans HX26.out)
      have HM27 := Lib.hid ((hb27.block M (Array.getElem?_eq_some_iff.1 HM26.out).1).trans HM26.out)
      have HO27 := Lib.hid ((hb27.block O (Array.getElem?_eq_some_iff.1 HO26.out).1).trans HO26.out)
      have HQ27 := Lib.hid ((hb27.block Q (Array.getElem?_eq_some_iff.1 HQ26.out).1).trans HQ26.out)
      have HC127 := Lib.hid ((hb27.block C1 (Array.getElem?_eq_some_iff.1 HC126.out).1).trans HC126.out)
      have HC227 := Lib.hid ((hb27.block C2 (Array.getElem?_eq_some_iff.1 HC226.out).1).trans HC226.out)
      have HBZ27 := Lib.hid ((HBZ26.out).trans (hb27.mono (HBZ26.out).size))
      have HOa27 := Lib.hid ((hb27.block Oa (Array.getElem?_eq_some_iff.1 HOa26.out).1).trans HOa26.out)
      have HOb27 := Lib.hid ((hb27.block Ob (Array.getElem?_eq_some_iff.1 HOb26.out).1).trans HOb26.out)
      have Hdi0_27 := Lib.hid (own_below Hdi0_26.out hb27 (Nat.le_refl _))
      have Hdi1_27 := Lib.hid (own_below Hdi1_26.out hb27 (Nat.le_refl _))
      have Hdt0_27 := Lib.hid (own_below Hdt0_26.out hb27 (Nat.le_refl _))
      have Hdt1_27 := Lib.hid (own_below Hdt1_26.out hb27 (Nat.le_refl _))
      have HD127 := Lib.hid ((hb27.block D1 (Array.getElem?_eq_some_iff.1 HD126.out).1).trans HD126.out)
      clear HX26 HM26 HO26 HQ26 HC126 HC226 HBZ26 HOa26 HOb26 Hdi0_26 Hdi1_26 Hdt0_26 Hdt1_26 HD126
      have bel27 := bel26.trans (hb27.mono bel26.size)
      have HD227 := Lib.hid (hxD2)
      clear hb27 hxD2
      have ORD : Hid (X < w23.heap.size ∧ M < w23.heap.size ∧ O < w23.heap.size ∧ Q < w23.heap.size ∧ C1 < w23.heap.size ∧ C2 < w23.heap.size ∧ w23.heap.size ≤ Oa ∧ w23.heap.size ≤ Ob ∧ Oa ≠ Ob ∧ Oa < D1 ∧ Ob < D1 ∧ Oa < D2 ∧ Ob < D2) := Lib.hid (by
        have g1 := HLOa.out; have g2 := HLOb.out; have g3 := HNE.out; have g4 := HLD1.out; have g5 := HLD2.out; have g6 := HLC1.out; have g7 := HLC2.out; have g8 := HLO4.out; have g9 := HLO2.out; have g10 := HSZ.out; have g11 := bel23.size; have g12 := HZ23.out; have g13 := HZ26.out
        omega)
      clear HSZ
      obtain ⟨b0, hb0⟩ : ∃ b, (decide (¬ finp (qof xk p) 0 im en = (im, en))) = b := ⟨_, rfl⟩
      have HBB0 := Lib.hid hb0
      clear hb0
      go_cut [70] from 55 to 69 (fun sx wx => sx = .bool b0 ∧ wx = w27)
      case first =>
        have cC1_0 := box_at HC127.out (j := 0) rfl
        have cC1_1 := box_at HC127.out (j := 1) rfl
        have cC2_0 := box_at HC227.out (j := 0) rfl
        have cC2_1 := box_at HC227.out (j := 1) rfl
        have cD1_0 := box_at HD127.out (j := 0) rfl
        have cD1_1 := box_at HD127.out (j := 1) rfl
        have cD2_0 := box_at HD227.out (j := 0) rfl
        have cD2_1 := box_at HD227.out (j := 1) rfl
        have k1 := run_str (Raw.below ANci0_.out HBZ27.out) 22 5 9 Tryz.underlying22 Tryz.underlying5 Tryz.underlying9
        have k2 := run_str (Bytes.row (F := []) Hdi0_27.out rfl (fun f hf => by cases hf)) 22 5 9 Tryz.underlying22 Tryz.underlying5 Tryz.underlying9
        have k3 := run_str (Raw.below ANct0_.out HBZ27.out) 22 5 9 Tryz.underlying22 Tryz.underlying5 Tryz.underlying9
        have k4 := run_str (Bytes.row (F := []) Hdt0_27.out rfl (fun f hf => by cases hf)) 22 5 9 Tryz.underlying22 Tryz.underlying5 Tryz.underlying9
        by_cases h1 : (finp (qof xk p) 0 im en).1 = im
        · have e1 := str_eq h1
          by_cases h2 : (finp (qof xk p) 0 im en).2 = en
          · have e2 := str_eq h2
            have hbv : b0 = false := by rw [← HBB0.out]; simp [Prod.ext_iff, h1, h2]
            have HBV := Lib.hid hbv
            clear h1 h2 hbv
            go_wp2
            go_meet
            case rel => exact ⟨by rw [HBV.out], rfl⟩
          · have e2 := str_ne h2
            have hbv : b0 = true := by rw [← HBB0.out]; simp [Prod.ext_iff, h2]
            have HBV := Lib.hid hbv
            clear h1 h2 hbv
            go_wp2
            go_meet
            case rel => exact ⟨by rw [HBV.out], rfl⟩
        · have e1 := str_ne h1
          have hbv : b0 = true := by rw [← HBB0.out]; simp [Prod.ext_iff, h1]
          have HBV := Lib.hid hbv
          clear h1 hbv
          go_wp2
          go_meet
          case rel => exact ⟨by rw [HBV.out], rfl⟩
      case rest =>
      obtain ⟨rfl, hw⟩ := hcut
      rw [hw]
      clear hw wc
      go_upto_if 70 with (fail)
      go_cut [] from 71 to 73 (fun wx => ∃ ai ae, wx.heap[Oa]? = some (.cells #[.int .i64 (tin (qof xk p) 0 im en o t).en, .int .i64 (tin (qof xk p) 0 im en o t).st, .int .i64 (tin (qof xk p) 0 im en o t).er, ai, ae] 50 (0, 0)) ∧ Bytes [] wx ai (tin (qof xk p) 0 im en o t).im ∧ Bytes [] wx ae (tin (qof xk p) 0 im en o t).ef ∧ ∃ wm, Below w27.heap.size w27 wm ∧ Keep [Oa] wm wx ∧ wm.heap[Oa]? = w27.heap[Oa]?)
      case first =>
        cases b0 with
        | true =>
          have cX_0 := box_at HX27.out (j := 0) rfl
          have cX_1 := box_at HX27.out (j := 1) rfl
          have cX_2 := box_at HX27.out (j := 2) rfl
          have cX_3 := box_at HX27.out (j := 3) rfl
          have cX_4 := box_at HX27.out (j := 4) rfl
          have cX_5 := box_at HX27.out (j := 5) rfl
          have cX_6 := box_at HX27.out (j := 6) rfl
          have cX_7 := box_at HX27.out (j := 7) rfl
          have cX_8 := box_at HX27.out (j := 8) rfl
          have cX_9 := box_at HX27.out (j := 9) rfl
          have cX_10 := box_at HX27.out (j := 10) rfl
          have cX_11 := box_at HX27.out (j := 11) rfl
          have cX_12 := box_at HX27.out (j := 12) rfl
          have cOa_0 := box_at HOa27.out (j := 0) rfl
          have cOa_1 := box_at HOa27.out (j := 1) rfl
          have cOa_2 := box_at HOa27.out (j := 2) rfl
          have cOa_3 := box_at HOa27.out (j := 3) rfl
          have cOa_4 := box_at HOa27.out (j := 4) rfl
          have f_0 := box_free HOa27.out 0
          have f_1 := box_free HOa27.out 1
          have f_2 := box_free HOa27.out 2
          have f_3 := box_free HOa27.out 3
          have f_4 := box_free HOa27.out 4
          have HTV : Hid (tin (qof xk p) 0 im en o t = t) := Lib.hid (by unfold tin; rw [if_neg (of_decide_eq_true HBB0.out)])
          go_wp2_with fail
          refine (to_any [] t _ _ _ (by omega) (by omega) ((HUA.out.below HBZ27.out).bytes MR3.out) ((HUA.out.below HBZ27.out).bytes MR4.out)).mono ?_
          rintro e wm ⟨v1, v2, rfl, hr1, hr2, hbm⟩
          obtain ⟨ra, rc, rfl⟩ := own_slice hr1
          obtain ⟨sa, sc, rfl⟩ := own_slice hr2
          have HOM := Lib.hid ((hbm.block Oa (Array.getElem?_eq_some_iff.1 HOa27.out).1).trans HOa27.out)
          have HME := Lib.hid (hbm.block Oa (Array.getElem?_eq_some_iff.1 HOa27.out).1)
          have HR1 := Lib.hid hr1
          have HR2 := Lib.hid hr2
          have HBM := Lib.hid hbm
          clear hr1 hr2 hbm cX_0 cX_1 cX_2 cX_3 cX_4 cX_5 cX_6 cX_7 cX_8 cX_9 cX_10 cX_11 cX_12 cOa_0 cOa_1 cOa_2 cOa_3 cOa_4 f_0 f_1 f_2 f_3 f_4
          have a_0 := box_at HOM.out (j := 0) rfl
          have f_0 := box_free HOM.out 0
          have a_1 := box_at HOM.out (j := 1) rfl
          have f_1 := box_free HOM.out 1
          have a_2 := box_at HOM.out (j := 2) rfl
          have f_2 := box_free HOM.out 2
          have a_3 := box_at HOM.out (j := 3) rfl
          have f_3 := box_free HOM.out 3
          have a_4 := box_at HOM.out (j := 4) rfl
          have f_4 := box_free HOM.out 4
          go_wp2
          go_meet
          obtain ⟨wx, hwx⟩ : ∃ W, W = (((((wm.setCell ⟨Oa, 0, none⟩ (.int .i64 t.en)).setCell ⟨Oa, 1, none⟩ (.int .i64 t.st)).setCell ⟨Oa, 2, none⟩ (.int .i64 t.er)).setCell ⟨Oa, 3, none⟩ (.slice ra t.im.length rc)).setCell ⟨Oa, 4, none⟩ (.slice sa t.ef.length sc)) := ⟨_, rfl⟩
          have KX : Keep [Oa] wm wx := by rw [hwx]; exact ((((((Keep.refl [Oa] wm).setCell (.inl (by simp)) _).setCell (.inl (by simp)) _).setCell (.inl (by simp)) _).setCell (.inl (by simp)) _).setCell (.inl (by simp)) _)
          have HX5 : wx.heap[Oa]? = some (.cells #[.int .i64 t.en, .int .i64 t.st, .int .i64 t.er, .slice ra t.im.length rc, .slice sa t.ef.length sc] 50 (0, 0)) := by rw [hwx]; exact (heap_setCell_same _ _ 4 _ 50 _ (heap_setCell_same _ _ 3 _ 50 _ (heap_setCell_same _ _ 2 _ 50 _ (heap_setCell_same _ _ 1 _ 50 _ (heap_setCell_same _ _ 0 _ 50 _ HOM.out)))))
          rw [← hwx]
          case rel =>
            rw [HTV.out]
            exact ⟨_, _, HX5, Bytes.row (F := []) (own_keepT HR1.out HOM.out (by omega) KX) rfl (fun f hf => by cases hf), Bytes.row (F := []) (own_keepT HR2.out HOM.out (by omega) KX) rfl (fun f hf => by cases hf), wm, HBM.out, KX, HME.out⟩
        | false =>
          have HTV : Hid (tin (qof xk p) 0 im en o t = o) := Lib.hid (by unfold tin; rw [if_pos (Classical.not_not.1 (of_decide_eq_false HBB0.out))])
          have HO0 : Hid (o.en = 0 ∧ o.er = 0) := Lib.hid (by rw [HOO.out]; exact ⟨rfl, rfl⟩)
          go_wp2
          go_meet
          case rel =>
            rw [HTV.out, HO0.out.1, HO0.out.2]
            exact ⟨_, _, HOa27.out, (HUA.out.below HBZ27.out).bytes MR1.out, (HUA.out.below HBZ27.out).bytes MR2.out, w27, Below.refl _ _, Keep.refl _ _, rfl⟩
      case rest =>
      obtain ⟨ai0, ae0, hxOa, hri0, hre0, wm0, hbm, hkm, hom⟩ := hcut
      obtain ⟨w28, hw28⟩ : ∃ W, W = wc := ⟨_, rfl⟩
      rw [← hw28] at hxOa hri0 hre0 hkm ⊢
      clear hw28 wc
      have HOM := Lib.hid (hom.trans HOa27.out)
      obtain ⟨aa0, ac0, rfl⟩ := Raw.slice hri0
      obtain ⟨ea0, ec0, rfl⟩ := Raw.slice hre0
      clear hom
      have HX28 := Lib.hid ((hkm.block X (Nat.lt_of_lt_of_le (Array.getElem?_eq_some_iff.1 HX27.out).1 hbm.size) (by intro h; rw [List.mem_singleton] at h; have := ORD.out; omega)).trans ((hbm.block X (Array.getElem?_eq_some_iff.1 HX27.out).1).trans HX27.out))
      clear HX27
      have HM28 := Lib.hid ((hkm.block M (Nat.lt_of_lt_of_le (Array.getElem?_eq_some_iff.1 HM27.out).1 hbm.size) (by intro h; rw [List.mem_singleton] at h; have := ORD.out; omega)).trans ((hbm.block M (Array.getElem?_eq_some_iff.1 HM27.out).1).trans HM27.out))
      clear HM27
      have HO28 := Lib.hid ((hkm.block O (Nat.lt_of_lt_of_le (Array.getElem?_eq_some_iff.1 HO27.out).1 hbm.size) (by intro h; rw [List.mem_singleton] at h; have := ORD.out; omega)).trans ((hbm.block O (Array.getElem?_eq_some_iff.1 HO27.out).1).trans HO27.out))
      clear HO27
      have HQ28 := Lib.hid ((hkm.block Q (Nat.lt_of_lt_of_le (Array.getElem?_eq_some_iff.1 HQ27.out).1 hbm.size) (by intro h; rw [List.mem_singleton] at h; have := ORD.out; omega)).trans ((hbm.block Q (Array.getElem?_eq_some_iff.1 HQ27.out).1).trans HQ27.out))
      clear HQ27
      have HC128 := Lib.hid ((hkm.block C1 (Nat.lt_of_lt_of_le (Array.getElem?_eq_some_iff.1 HC127.out).1 hbm.size) (by intro h; rw [List.mem_singleton] at h; have := ORD.out; omega)).trans ((hbm.block C1 (Array.getElem?_eq_some_iff.1 HC127.out).1).trans HC127.out))
      clear HC127
      have HC228 := Lib.hid ((hkm.block C2 (Nat.lt_of_lt_of_le (Array.getElem?_eq_some_iff.1 HC227.out).1 hbm.size) (by intro h; rw [List.mem_singleton] at h; have := ORD.out; omega)).trans ((hbm.block C2 (Array.getElem?_eq_some_iff.1 HC227.out).1).trans HC227.out))
      clear HC227
      have HBZ28 := Lib.hid ((HBZ27.out.trans (hbm.mono HBZ27.out.size)).trans (hkm.below (Nat.le_trans HBZ27.out.size hbm.size) (fun f hf => by rw [List.mem_singleton.1 hf]; have := ORD.out; omega)))
      clear HBZ27
      clear HOa27
      have HOb28 := Lib.hid ((hkm.block Ob (Nat.lt_of_lt_of_le (Array.getElem?_eq_some_iff.1 HOb27.out).1 hbm.size) (by intro h; rw [List.mem_singleton] at h; have := ORD.out; omega)).trans ((hbm.block Ob (Array.getElem?_eq_some_iff.1 HOb27.out).1).trans HOb27.out))
      clear HOb27
      have Hdi0_28 := Lib.hid (own_keepT (own_below Hdi0_27.out hbm (Nat.le_refl _)) HOM.out (by omega) hkm)
      clear Hdi0_27
      have Hdi1_28 := Lib.hid (own_keepT (own_below Hdi1_27.out hbm (Nat.le_refl _)) HOM.out (by omega) hkm)
      clear Hdi1_27
      have Hdt0_28 := Lib.hid (own_keepT (own_below Hdt0_27.out hbm (Nat.le_refl _)) HOM.out (by omega) hkm)
      clear Hdt0_27
      have Hdt1_28 := Lib.hid (own_keepT (own_below Hdt1_27.out hbm (Nat.le_refl _)) HOM.out (by omega) hkm)
      clear Hdt1_27
      have HD128 := Lib.hid ((hkm.block D1 (Nat.lt_of_lt_of_le (Array.getElem?_eq_some_iff.1 HD127.out).1 hbm.size) (by intro h; rw [List.mem_singleton] at h; have := ORD.out; omega)).trans ((hbm.block D1 (Array.getElem?_eq_some_iff.1 HD127.out).1).trans HD127.out))
      clear HD127
      have HD228 := Lib.hid ((hkm.block D2 (Nat.lt_of_lt_of_le (Array.getElem?_eq_some_iff.1 HD227.out).1 hbm.size) (by intro h; rw [List.mem_singleton] at h; have := ORD.out; omega)).trans ((hbm.block D2 (Array.getElem?_eq_some_iff.1 HD227.out).1).trans HD227.out))
      clear HD227
      have bel28 := (bel27.trans (hbm.mono bel27.size)).trans (hkm.below (Nat.le_trans bel27.size hbm.size) (fun f hf => by rw [List.mem_singleton.1 hf]; have := ORD.out; have := bel23.size; omega))
      have HOa28 := Lib.hid (hxOa)
      have Hri028 := Lib.hid (hri0)
      have Hre028 := Lib.hid (hre0)
      clear hxOa hbm hkm HOM hri0 hre0
      go_upto_region 12 with (fail)
      obtain ⟨b1, hb1⟩ : ∃ b, (decide (¬ finp (qof xk p) 1 im en = (im, en))) = b := ⟨_, rfl⟩
      have HBB1 := Lib.hid hb1
      clear hb1
      go_cut [89] from 74 to 88 (fun sx wx => sx = .bool b1 ∧ wx = w28)
      case first =>
        have cC1_0 := box_at HC128.out (j := 0) rfl
        have cC1_1 := box_at HC128.out (j := 1) rfl
        have cC2_0 := box_at HC228.out (j := 0) rfl
        have cC2_1 := box_at HC228.out (j := 1) rfl
        have cD1_0 := box_at HD128.out (j := 0) rfl
        have cD1_1 := box_at HD128.out (j := 1) rfl
        have cD2_0 := box_at HD228.out (j := 0) rfl
        have cD2_1 := box_at HD228.out (j := 1) rfl
        have k1 := run_str (Raw.below ANci1_.out HBZ28.out) 22 5 9 Tryz.underlying22 Tryz.underlying5 Tryz.underlying9
        have k2 := run_str (Bytes.row (F := []) Hdi1_28.out rfl (fun f hf => by cases hf)) 22 5 9 Tryz.underlying22 Tryz.underlying5 Tryz.underlying9
        have k3 := run_str (Raw.below ANct1_.out HBZ28.out) 22 5 9 Tryz.underlying22 Tryz.underlying5 Tryz.underlying9
        have k4 := run_str (Bytes.row (F := []) Hdt1_28.out rfl (fun f hf => by cases hf)) 22 5 9 Tryz.underlying22 Tryz.underlying5 Tryz.underlying9
        by_cases h1 : (finp (qof xk p) 1 im en).1 = im
        · have e1 := str_eq h1
          by_cases h2 : (finp (qof xk p) 1 im en).2 = en
          · have e2 := str_eq h2
            have hbv : b1 = false := by rw [← HBB1.out]; simp [Prod.ext_iff, h1, h2]
            have HBV := Lib.hid hbv
            clear h1 h2 hbv
            go_wp2
            go_meet
            case rel => exact ⟨by rw [HBV.out], rfl⟩
          · have e2 := str_ne h2
            have hbv : b1 = true := by rw [← HBB1.out]; simp [Prod.ext_iff, h2]
            have HBV := Lib.hid hbv
            clear h1 h2 hbv
            go_wp2
            go_meet
            case rel => exact ⟨by rw [HBV.out], rfl⟩
        · have e1 := str_ne h1
          have hbv : b1 = true := by rw [← HBB1.out]; simp [Prod.ext_iff, h1]
          have HBV := Lib.hid hbv
          clear h1 hbv
          go_wp2
          go_meet
          case rel => exact ⟨by rw [HBV.out], rfl⟩
      case rest =>
      obtain ⟨rfl, hw⟩ := hcut
      rw [hw]
      clear hw wc
      go_upto_if 89 with (fail)
      go_cut [] from 90 to 92 (fun wx => ∃ ai ae, wx.heap[Ob]? = some (.cells #[.int .i64 (tin (qof xk p) 1 im en o t).en, .int .i64 (tin (qof xk p) 1 im en o t).st, .int .i64 (tin (qof xk p) 1 im en o t).er, ai, ae] 50 (0, 0)) ∧ Bytes [] wx ai (tin (qof xk p) 1 im en o t).im ∧ Bytes [] wx ae (tin (qof xk p) 1 im en o t).ef ∧ ∃ wm, Below w28.heap.size w28 wm ∧ Keep [Ob] wm wx ∧ wm.heap[Ob]? = w28.heap[Ob]?)
      case first =>
        cases b1 with
        | true =>
          have cX_0 := box_at HX28.out (j := 0) rfl
          have cX_1 := box_at HX28.out (j := 1) rfl
          have cX_2 := box_at HX28.out (j := 2) rfl
          have cX_3 := box_at HX28.out (j := 3) rfl
          have cX_4 := box_at HX28.out (j := 4) rfl
          have cX_5 := box_at HX28.out (j := 5) rfl
          have cX_6 := box_at HX28.out (j := 6) rfl
          have cX_7 := box_at HX28.out (j := 7) rfl
          have cX_8 := box_at HX28.out (j := 8) rfl
          have cX_9 := box_at HX28.out (j := 9) rfl
          have cX_10 := box_at HX28.out (j := 10) rfl
          have cX_11 := box_at HX28.out (j := 11) rfl
          have cX_12 := box_at HX28.out (j := 12) rfl
          have cOb_0 := box_at HOb28.out (j := 0) rfl
          have cOb_1 := box_at HOb28.out (j := 1) rfl
          have cOb_2 := box_at HOb28.out (j := 2) rfl
          have cOb_3 := box_at HOb28.out (j := 3) rfl
          have cOb_4 := box_at HOb28.out (j := 4) rfl
          have f_0 := box_free HOb28.out 0
          have f_1 := box_free HOb28.out 1
          have f_2 := box_free HOb28.out 2
          have f_3 := box_free HOb28.out 3
          have f_4 := box_free HOb28.out 4
          have HTV : Hid (tin (qof xk p) 1 im en o t = t) := Lib.hid (by unfold tin; rw [if_neg (of_decide_eq_true HBB1.out)])
          go_wp2_with fail
          refine (to_any [] t _ _ _ (by omega) (by omega) ((HUA.out.below HBZ28.out).bytes MR3.out) ((HUA.out.below HBZ28.out).bytes MR4.out)).mono ?_
          rintro e wm ⟨v1, v2, rfl, hr1, hr2, hbm⟩
          obtain ⟨ra, rc, rfl⟩ := own_slice hr1
          obtain ⟨sa, sc, rfl⟩ := own_slice hr2
          have HOM := Lib.hid ((hbm.block Ob (Array.getElem?_eq_some_iff.1 HOb28.out).1).trans HOb28.out)
          have HME := Lib.hid (hbm.block Ob (Array.getElem?_eq_some_iff.1 HOb28.out).1)
          have HR1 := Lib.hid hr1
          have HR2 := Lib.hid hr2
          have HBM := Lib.hid hbm
          clear hr1 hr2 hbm cX_0 cX_1 cX_2 cX_3 cX_4 cX_5 cX_6 cX_7 cX_8 cX_9 cX_10 cX_11 cX_12 cOb_0 cOb_1 cOb_2 cOb_3 cOb_4 f_0 f_1 f_2 f_3 f_4
          have a_0 := box_at HOM.out (j := 0) rfl
          have f_0 := box_free HOM.out 0
          have a_1 := box_at HOM.out (j := 1) rfl
          have f_1 := box_free HOM.out 1
          have a_2 := box_at HOM.out (j := 2) rfl
          have f_2 := box_free HOM.out 2
          have a_3 := box_at HOM.out (j := 3) rfl
          have f_3 := box_free HOM.out 3
          have a_4 := box_at HOM.out (j := 4) rfl
          have f_4 := box_free HOM.out 4
          go_wp2
          go_meet
          obtain ⟨wx, hwx⟩ : ∃ W, W = (((((wm.setCell ⟨Ob, 0, none⟩ (.int .i64 t.en)).setCell ⟨Ob, 1, none⟩ (.int .i64 t.st)).setCell ⟨Ob, 2, none⟩ (.int .i64 t.er)).setCell ⟨Ob, 3, none⟩ (.slice ra t.im.length rc)).setCell ⟨Ob, 4, none⟩ (.slice sa t.ef.length sc)) := ⟨_, rfl⟩
          have KX : Keep [Ob] wm wx := by rw [hwx]; exact ((((((Keep.refl [Ob] wm).setCell (.inl (by simp)) _).setCell (.inl (by simp)) _).setCell (.inl (by simp)) _).setCell (.inl (by simp)) _).setCell (.inl (by simp)) _)
          have HX5 : wx.heap[Ob]? = some (.cells #[.int .i64 t.en, .int .i64 t.st, .int .i64 t.er, .slice ra t.im.length rc, .slice sa t.ef.length sc] 50 (0, 0)) := by rw [hwx]; exact (heap_setCell_same _ _ 4 _ 50 _ (heap_setCell_same _ _ 3 _ 50 _ (heap_setCell_same _ _ 2 _ 50 _ (heap_setCell_same _ _ 1 _ 50 _ (heap_setCell_same _ _ 0 _ 50 _ HOM.out)))))
          rw [← hwx]
          case rel =>
            rw [HTV.out]
            exact ⟨_, _, HX5, Bytes.row (F := []) (own_keepT HR1.out HOM.out (by omega) KX) rfl (fun f hf => by cases hf), Bytes.row (F := []) (own_keepT HR2.out HOM.out (by omega) KX) rfl (fun f hf => by cases hf), wm, HBM.out, KX, HME.out⟩
        | false =>
          have HTV : Hid (tin (qof xk p) 1 im en o t = o) := Lib.hid (by unfold tin; rw [if_pos (Classical.not_not.1 (of_decide_eq_false HBB1.out))])
          have HO0 : Hid (o.en = 0 ∧ o.er = 0) := Lib.hid (by rw [HOO.out]; exact ⟨rfl, rfl⟩)
          go_wp2
          go_meet
          case rel =>
            rw [HTV.out, HO0.out.1, HO0.out.2]
            exact ⟨_, _, HOb28.out, (HUA.out.below HBZ28.out).bytes MR1.out, (HUA.out.below HBZ28.out).bytes MR2.out, w28, Below.refl _ _, Keep.refl _ _, rfl⟩
      case rest =>
      obtain ⟨ai1, ae1, hxOb, hri1, hre1, wm1, hbm, hkm, hom⟩ := hcut
      obtain ⟨w29, hw29⟩ : ∃ W, W = wc := ⟨_, rfl⟩
      rw [← hw29] at hxOb hri1 hre1 hkm ⊢
      clear hw29 wc
      have HOM := Lib.hid (hom.trans HOb28.out)
      obtain ⟨aa1, ac1, rfl⟩ := Raw.slice hri1
      obtain ⟨ea1, ec1, rfl⟩ := Raw.slice hre1
      clear hom
      have HX29 := Lib.hid ((hkm.block X (Nat.lt_of_lt_of_le (Array.getElem?_eq_some_iff.1 HX28.out).1 hbm.size) (by intro h; rw [List.mem_singleton] at h; have := ORD.out; omega)).trans ((hbm.block X (Array.getElem?_eq_some_iff.1 HX28.out).1).trans HX28.out))
      clear HX28
      have HM29 := Lib.hid ((hkm.block M (Nat.lt_of_lt_of_le (Array.getElem?_eq_some_iff.1 HM28.out).1 hbm.size) (by intro h; rw [List.mem_singleton] at h; have := ORD.out; omega)).trans ((hbm.block M (Array.getElem?_eq_some_iff.1 HM28.out).1).trans HM28.out))
      clear HM28
      have HO29 := Lib.hid ((hkm.block O (Nat.lt_of_lt_of_le (Array.getElem?_eq_some_iff.1 HO28.out).1 hbm.size) (by intro h; rw [List.mem_singleton] at h; have := ORD.out; omega)).trans ((hbm.block O (Array.getElem?_eq_some_iff.1 HO28.out).1).trans HO28.out))
      clear HO28
      have HQ29 := Lib.hid ((hkm.block Q (Nat.lt_of_lt_of_le (Array.getElem?_eq_some_iff.1 HQ28.out).1 hbm.size) (by intro h; rw [List.mem_singleton] at h; have := ORD.out; omega)).trans ((hbm.block Q (Array.getElem?_eq_some_iff.1 HQ28.out).1).trans HQ28.out))
      clear HQ28
      have HC129 := Lib.hid ((hkm.block C1 (Nat.lt_of_lt_of_le (Array.getElem?_eq_some_iff.1 HC128.out).1 hbm.size) (by intro h; rw [List.mem_singleton] at h; have := ORD.out; omega)).trans ((hbm.block C1 (Array.getElem?_eq_some_iff.1 HC128.out).1).trans HC128.out))
      clear HC128
      have HC229 := Lib.hid ((hkm.block C2 (Nat.lt_of_lt_of_le (Array.getElem?_eq_some_iff.1 HC228.out).1 hbm.size) (by intro h; rw [List.mem_singleton] at h; have := ORD.out; omega)).trans ((hbm.block C2 (Array.getElem?_eq_some_iff.1 HC228.out).1).trans HC228.out))
      clear HC228
      have HBZ29 := Lib.hid ((HBZ28.out.trans (hbm.mono HBZ28.out.size)).trans (hkm.below (Nat.le_trans HBZ28.out.size hbm.size) (fun f hf => by rw [List.mem_singleton.1 hf]; have := ORD.out; omega)))
      clear HBZ28
      clear HOb28
      have Hdi0_29 := Lib.hid (own_keepT (own_below Hdi0_28.out hbm (Nat.le_refl _)) HOM.out (by omega) hkm)
      clear Hdi0_28
      have Hdi1_29 := Lib.hid (own_keepT (own_below Hdi1_28.out hbm (Nat.le_refl _)) HOM.out (by omega) hkm)
      clear Hdi1_28
      have Hdt0_29 := Lib.hid (own_keepT (own_below Hdt0_28.out hbm (Nat.le_refl _)) HOM.out (by omega) hkm)
      clear Hdt0_28
      have Hdt1_29 := Lib.hid (own_keepT (own_below Hdt1_28.out hbm (Nat.le_refl _)) HOM.out (by omega) hkm)
      clear Hdt1_28
      have HD129 := Lib.hid ((hkm.block D1 (Nat.lt_of_lt_of_le (Array.getElem?_eq_some_iff.1 HD128.out).1 hbm.size) (by intro h; rw [List.mem_singleton] at h; have := ORD.out; omega)).trans ((hbm.block D1 (Array.getElem?_eq_some_iff.1 HD128.out).1).trans HD128.out))
      clear HD128
      have HD229 := Lib.hid ((hkm.block D2 (Nat.lt_of_lt_of_le (Array.getElem?_eq_some_iff.1 HD228.out).1 hbm.size) (by intro h; rw [List.mem_singleton] at h; have := ORD.out; omega)).trans ((hbm.block D2 (Array.getElem?_eq_some_iff.1 HD228.out).1).trans HD228.out))
      clear HD228
      have HOa29 := Lib.hid ((hkm.block Oa (Nat.lt_of_lt_of_le (Array.getElem?_eq_some_iff.1 HOa28.out).1 hbm.size) (by intro h; rw [List.mem_singleton] at h; have := ORD.out; omega)).trans ((hbm.block Oa (Array.getElem?_eq_some_iff.1 HOa28.out).1).trans HOa28.out))
      clear HOa28
      have Hri029 : Hid (Bytes [] w29 _ _) := Lib.hid (Raw.keep (bytes_outO (Raw.below Hri028.out hbm) HOM.out) hkm (fun f hf => .inl (by rw [List.mem_singleton.1 hf]; simp)) (fun f hf => by cases hf))
      clear Hri028
      have Hre029 : Hid (Bytes [] w29 _ _) := Lib.hid (Raw.keep (bytes_outO (Raw.below Hre028.out hbm) HOM.out) hkm (fun f hf => .inl (by rw [List.mem_singleton.1 hf]; simp)) (fun f hf => by cases hf))
      clear Hre028
      have bel29 := (bel28.trans (hbm.mono bel28.size)).trans (hkm.below (Nat.le_trans bel28.size hbm.size) (fun f hf => by rw [List.mem_singleton.1 hf]; have := ORD.out; have := bel23.size; omega))
      have HOb29 := Lib.hid (hxOb)
      have Hri129 := Lib.hid (hri1)
      have Hre129 := Lib.hid (hre1)
      clear hxOb hbm hkm HOM hri1 hre1
      clear Hdi0_29
      clear Hdi1_29
      clear Hdt0_29
      clear Hdt1_29
      clear HD129
      clear HD229
      clear HC129
      clear HC229
      clear ANci0_ ANci1_ ANct0_ ANct1_
      have HOL : Hid (o.im.length ≤ 1000 ∧ o.ef.length ≤ 1000) := Lib.hid (by rw [HOO.out]; exact ⟨hnl, hfl⟩)
      obtain ⟨A, hA⟩ : ∃ A, (tin (qof xk p) 0 im en o t) = A := ⟨_, rfl⟩
      obtain ⟨B, hB⟩ : ∃ B, (tin (qof xk p) 1 im en o t) = B := ⟨_, rfl⟩
      have HAL : Hid (A.im.length ≤ 1000 ∧ A.ef.length ≤ 1000) := Lib.hid (by rw [← hA]; exact tin_len HOL.out.1 HOL.out.2 htl htl2)
      have HBL : Hid (B.im.length ≤ 1000 ∧ B.ef.length ≤ 1000) := Lib.hid (by rw [← hB]; exact tin_len HOL.out.1 HOL.out.2 htl htl2)
      rw [hA] at HOa29 Hri029 Hre029
      rw [hB] at HOb29 Hri129 Hre129
      have HTA := Lib.hid hA
      have HTB := Lib.hid hB
      clear hA hB
      have cQ_0 := box_at HQ29.out (j := 0) rfl
      have cQ_1 := box_at HQ29.out (j := 1) rfl
      have cQ_2 := box_at HQ29.out (j := 2) rfl
      have cQ_3 := box_at HQ29.out (j := 3) rfl
      have cQ_4 := box_at HQ29.out (j := 4) rfl
      have cQ_5 := box_at HQ29.out (j := 5) rfl
      have cQ_6 := box_at HQ29.out (j := 6) rfl
      have cOa_0 := box_at HOa29.out (j := 0) rfl
      have cOa_1 := box_at HOa29.out (j := 1) rfl
      have cOa_2 := box_at HOa29.out (j := 2) rfl
      have cOa_3 := box_at HOa29.out (j := 3) rfl
      have cOa_4 := box_at HOa29.out (j := 4) rfl
      have cOb_0 := box_at HOb29.out (j := 0) rfl
      have cOb_1 := box_at HOb29.out (j := 1) rfl
      have cOb_2 := box_at HOb29.out (j := 2) rfl
      have cOb_3 := box_at HOb29.out (j := 3) rfl
      have cOb_4 := box_at HOb29.out (j := 4) rfl
      go_wp2_with fail
      refine (ull_outc (HUA.out.below HBZ29.out) p A B _ _ _ _ (by have := HAL.out; omega) (by have := HAL.out; omega) (by have := HBL.out; omega) (by have := HBL.out; omega) Hri029.out Hre029.out Hri129.out Hre129.out).mono ?_
      rintro e w30 ⟨fa, fb, ia, ea, ib, eb, hfa, hfb, rfl, h1, h2, h3, h4, hb30⟩
      clear cQ_0 cQ_1 cQ_2 cQ_3 cQ_4 cQ_5 cQ_6 cOa_0 cOa_1 cOa_2 cOa_3 cOa_4 cOb_0 cOb_1 cOb_2 cOb_3 cOb_4
      clear Hri029
      clear Hre029
      clear Hri129
      clear Hre129
      have HBZo := Lib.hid HBZ29.out.size
      have HX30 := Lib.hid ((hb30.block X (Array.getElem?_eq_some_iff.1 HX29.out).1).trans HX29.out)
      have HM30 := Lib.hid ((hb30.block M (Array.getElem?_eq_some_iff.1 HM29.out).1).trans HM29.out)
      have HO30 := Lib.hid ((hb30.block O (Array.getElem?_eq_some_iff.1 HO29.out).1).trans HO29.out)
      have HQ30 := Lib.hid ((hb30.block Q (Array.getElem?_eq_some_iff.1 HQ29.out).1).trans HQ29.out)
      have HBZ30 := Lib.hid ((HBZ29.out).trans (hb30.mono (HBZ29.out).size))
      have HOa30 := Lib.hid ((hb30.block Oa (Array.getElem?_eq_some_iff.1 HOa29.out).1).trans HOa29.out)
      have HOb30 := Lib.hid ((hb30.block Ob (Array.getElem?_eq_some_iff.1 HOb29.out).1).trans HOb29.out)
      clear HX29 HM29 HO29 HQ29 HBZ29 HOa29 HOb29
      have bel30 := bel29.trans (hb30.mono bel29.size)
      obtain ⟨ia1, ia2, rfl⟩ := own_slice (show w30.ownsRow _ 5 1 ia _ _ from h1)
      have hia : w30.ownsRow w29.heap.size 5 1 (.slice ia1 fa.im.length ia2) fa.im.length (bytesV fa.im) := h1
      have Hria30 := Lib.hid hia
      obtain ⟨ea1, ea2, rfl⟩ := own_slice (show w30.ownsRow _ 5 1 ea _ _ from h2)
      have hea : w30.ownsRow w29.heap.size 5 1 (.slice ea1 fa.ef.length ea2) fa.ef.length (bytesV fa.ef) := h2
      have Hrea30 := Lib.hid hea
      obtain ⟨ib1, ib2, rfl⟩ := own_slice (show w30.ownsRow _ 5 1 ib _ _ from h3)
      have hib : w30.ownsRow w29.heap.size 5 1 (.slice ib1 fb.im.length ib2) fb.im.length (bytesV fb.im) := h3
      have Hrib30 := Lib.hid hib
      obtain ⟨eb1, eb2, rfl⟩ := own_slice (show w30.ownsRow _ 5 1 eb _ _ from h4)
      have heb : w30.ownsRow w29.heap.size 5 1 (.slice eb1 fb.ef.length eb2) fb.ef.length (bytesV fb.ef) := h4
      have Hreb30 := Lib.hid heb
      have HFA := Lib.hid hfa
      have HFB := Lib.hid hfb
      have HSZ := Lib.hid (show w23.heap.size ≤ w29.heap.size from (by have := (HBZ30.out.size); have := hb30.size; exact Nat.le_trans (Nat.le_refl _) HBZo.out))
      clear h1 h2 h3 h4 hia hea hib heb hfa hfb
      clear hb30
      have cOa_0 := box_at HOa30.out (j := 0) rfl
      have cOa_1 := box_at HOa30.out (j := 1) rfl
      have cOa_2 := box_at HOa30.out (j := 2) rfl
      have cOa_3 := box_at HOa30.out (j := 3) rfl
      have cOa_4 := box_at HOa30.out (j := 4) rfl
      have cOb_0 := box_at HOb30.out (j := 0) rfl
      have cOb_1 := box_at HOb30.out (j := 1) rfl
      have cOb_2 := box_at HOb30.out (j := 2) rfl
      have cOb_3 := box_at HOb30.out (j := 3) rfl
      have cOb_4 := box_at HOb30.out (j := 4) rfl
      have f_0 := box_free HOa30.out 0
      have g_0 := box_free HOb30.out 0
      have f_1 := box_free HOa30.out 1
      have g_1 := box_free HOb30.out 1
      have f_2 := box_free HOa30.out 2
      have g_2 := box_free HOb30.out 2
      have f_3 := box_free HOa30.out 3
      have g_3 := box_free HOb30.out 3
      have f_4 := box_free HOa30.out 4
      have g_4 := box_free HOb30.out 4
      have hne1 : Oa ≠ Ob := HNE.out
      have hne2 : Ob ≠ Oa := fun h => HNE.out h.symm
      go_upto_region 15 with (fail)
      clear cOa_0 cOa_1 cOa_2 cOa_3 cOa_4 cOb_0 cOb_1 cOb_2 cOb_3 cOb_4 f_0 g_0 f_1 g_1 f_2 g_2 f_3 g_3 f_4 g_4 hne1 hne2
      obtain ⟨w31, hw31⟩ : ∃ W, W = (((((w30.setCell ⟨Oa, 0, none⟩ (.int .i64 fa.en)).setCell ⟨Oa, 1, none⟩ (.int .i64 fa.st)).setCell ⟨Oa, 2, none⟩ (.int .i64 fa.er)).setCell ⟨Oa, 3, none⟩ (.slice ia1 fa.im.length ia2)).setCell ⟨Oa, 4, none⟩ (.slice ea1 fa.ef.length ea2)) := ⟨_, rfl⟩
      have hk31 : Keep [Oa] w30 w31 := by rw [hw31]; exact ((((((Keep.refl [Oa] w30).setCell (.inl (by simp)) _).setCell (.inl (by simp)) _).setCell (.inl (by simp)) _).setCell (.inl (by simp)) _).setCell (.inl (by simp)) _)
      have hx31 : w31.heap[Oa]? = some (.cells #[.int .i64 fa.en, .int .i64 fa.st, .int .i64 fa.er, .slice ia1 fa.im.length ia2, .slice ea1 fa.ef.length ea2] 50 (0, 0)) := by rw [hw31]; exact (heap_setCell_same _ _ 4 _ 50 _ (heap_setCell_same _ _ 3 _ 50 _ (heap_setCell_same _ _ 2 _ 50 _ (heap_setCell_same _ _ 1 _ 50 _ (heap_setCell_same _ _ 0 _ 50 _ HOa30.out)))))
      rw [← hw31]
      clear hw31
      have HX31 := Lib.hid ((hk31.block X (Array.getElem?_eq_some_iff.1 HX30.out).1 (by intro h; rw [List.mem_singleton] at h; have := ORD.out; omega)).trans HX30.out)
      clear HX30
      have HM31 := Lib.hid ((hk31.block M (Array.getElem?_eq_some_iff.1 HM30.out).1 (by intro h; rw [List.mem_singleton] at h; have := ORD.out; omega)).trans HM30.out)
      clear HM30
      have HO31 := Lib.hid ((hk31.block O (Array.getElem?_eq_some_iff.1 HO30.out).1 (by intro h; rw [List.mem_singleton] at h; have := ORD.out; omega)).trans HO30.out)
      clear HO30
      have HQ31 := Lib.hid ((hk31.block Q (Array.getElem?_eq_some_iff.1 HQ30.out).1 (by intro h; rw [List.mem_singleton] at h; have := ORD.out; omega)).trans HQ30.out)
      clear HQ30
      have HBZ31 := Lib.hid (HBZ30.out.trans (hk31.below HBZ30.out.size (fun f hf => by rw [List.mem_singleton.1 hf]; have := ORD.out; omega)))
      clear HBZ30
      have HOb31 := Lib.hid ((hk31.block Ob (Array.getElem?_eq_some_iff.1 HOb30.out).1 (by intro h; rw [List.mem_singleton] at h; have := ORD.out; omega)).trans HOb30.out)
      clear HOb30
      have Hria31 := Lib.hid (own_keepT Hria30.out HOa30.out (by omega) hk31)
      clear Hria30
      have Hrea31 := Lib.hid (own_keepT Hrea30.out HOa30.out (by omega) hk31)
      clear Hrea30
      have Hrib31 := Lib.hid (own_keepT Hrib30.out HOa30.out (by omega) hk31)
      clear Hrib30
      have Hreb31 := Lib.hid (own_keepT Hreb30.out HOa30.out (by omega) hk31)
      clear Hreb30
      have bel31 := bel30.trans (hk31.below bel30.size (fun f hf => by rw [List.mem_singleton.1 hf]; have := ORD.out; have := bel23.size; omega))
      clear HOa30
      have HOa31 := Lib.hid hx31
      clear hx31 hk31
      obtain ⟨w32, hw32⟩ : ∃ W, W = (((((w31.setCell ⟨Ob, 0, none⟩ (.int .i64 fb.en)).setCell ⟨Ob, 1, none⟩ (.int .i64 fb.st)).setCell ⟨Ob, 2, none⟩ (.int .i64 fb.er)).setCell ⟨Ob, 3, none⟩ (.slice ib1 fb.im.length ib2)).setCell ⟨Ob, 4, none⟩ (.slice eb1 fb.ef.length eb2)) := ⟨_, rfl⟩
      have hk32 : Keep [Ob] w31 w32 := by rw [hw32]; exact ((((((Keep.refl [Ob] w31).setCell (.inl (by simp)) _).setCell (.inl (by simp)) _).setCell (.inl (by simp)) _).setCell (.inl (by simp)) _).setCell (.inl (by simp)) _)
      have hx32 : w32.heap[Ob]? = some (.cells #[.int .i64 fb.en, .int .i64 fb.st, .int .i64 fb.er, .slice ib1 fb.im.length ib2, .slice eb1 fb.ef.length eb2] 50 (0, 0)) := by rw [hw32]; exact (heap_setCell_same _ _ 4 _ 50 _ (heap_setCell_same _ _ 3 _ 50 _ (heap_setCell_same _ _ 2 _ 50 _ (heap_setCell_same _ _ 1 _ 50 _ (heap_setCell_same _ _ 0 _ 50 _ HOb31.out)))))
      rw [← hw32]
      clear hw32
      have HX32 := Lib.hid ((hk32.block X (Array.getElem?_eq_some_iff.1 HX31.out).1 (by intro h; rw [List.mem_singleton] at h; have := ORD.out; omega)).trans HX31.out)
      clear HX31
      have HM32 := Lib.hid ((hk32.block M (Array.getElem?_eq_some_iff.1 HM31.out).1 (by intro h; rw [List.mem_singleton] at h; have := ORD.out; omega)).trans HM31.out)
      clear HM31
      have HO32 := Lib.hid ((hk32.block O (Array.getElem?_eq_some_iff.1 HO31.out).1 (by intro h; rw [List.mem_singleton] at h; have := ORD.out; omega)).trans HO31.out)
      clear HO31
      have HQ32 := Lib.hid ((hk32.block Q (Array.getElem?_eq_some_iff.1 HQ31.out).1 (by intro h; rw [List.mem_singleton] at h; have := ORD.out; omega)).trans HQ31.out)
      clear HQ31
      have HBZ32 := Lib.hid (HBZ31.out.trans (hk32.below HBZ31.out.size (fun f hf => by rw [List.mem_singleton.1 hf]; have := ORD.out; omega)))
      clear HBZ31
      have HOa32 := Lib.hid ((hk32.block Oa (Array.getElem?_eq_some_iff.1 HOa31.out).1 (by intro h; rw [List.mem_singleton] at h; have := ORD.out; omega)).trans HOa31.out)
      clear HOa31
      have Hria32 := Lib.hid (own_keepT Hria31.out HOb31.out (by omega) hk32)
      clear Hria31
      have Hrea32 := Lib.hid (own_keepT Hrea31.out HOb31.out (by omega) hk32)
      clear Hrea31
      have Hrib32 := Lib.hid (own_keepT Hrib31.out HOb31.out (by omega) hk32)
      clear Hrib31
      have Hreb32 := Lib.hid (own_keepT Hreb31.out HOb31.out (by omega) hk32)
      clear Hreb31
      have bel32 := bel31.trans (hk32.below bel31.size (fun f hf => by rw [List.mem_singleton.1 hf]; have := ORD.out; have := bel23.size; omega))
      clear HOb31
      have HOb32 := Lib.hid hx32
      clear hx32 hk32
      have HUF := HUA.out.more HBZ32.out [(.slice ia1 fa.im.length ia2, fa.im), (.slice ea1 fa.ef.length ea2, fa.ef), (.slice ib1 fb.im.length ib2, fb.im), (.slice eb1 fb.ef.length eb2, fb.ef)] (fun q hq => by
        simp only [List.mem_cons, List.not_mem_nil, or_false] at hq
        rcases hq with rfl | rfl | rfl | rfl
        · exact ⟨5, own_base Hria32.out HBZo.out⟩
        · exact ⟨5, own_base Hrea32.out HBZo.out⟩
        · exact ⟨5, own_base Hrib32.out HBZo.out⟩
        · exact ⟨5, own_base Hreb32.out HBZo.out⟩) [] (fun z hz => by cases hz)
      have HUF32 := Lib.hid HUF
      have HTF := Lib.hid (trk_facts HTr.out hd ha)
      clear HUF
      clear Hria32
      clear Hrea32
      clear Hrib32
      clear Hreb32
      have cQ_0 := box_at HQ32.out (j := 0) rfl
      have cQ_1 := box_at HQ32.out (j := 1) rfl
      have cQ_2 := box_at HQ32.out (j := 2) rfl
      have cQ_3 := box_at HQ32.out (j := 3) rfl
      have cQ_4 := box_at HQ32.out (j := 4) rfl
      have cQ_5 := box_at HQ32.out (j := 5) rfl
      have cQ_6 := box_at HQ32.out (j := 6) rfl
      have cM_0 := box_at HM32.out (j := 0) rfl
      have cM_1 := box_at HM32.out (j := 1) rfl
      have cM_2 := box_at HM32.out (j := 2) rfl
      have cM_3 := box_at HM32.out (j := 3) rfl
      have cM_4 := box_at HM32.out (j := 4) rfl
      have cM_5 := box_at HM32.out (j := 5) rfl
      have cM_6 := box_at HM32.out (j := 6) rfl
      have cM_7 := box_at HM32.out (j := 7) rfl
      have cM_8 := box_at HM32.out (j := 8) rfl
      have cOa_0 := box_at HOa32.out (j := 0) rfl
      have cOa_1 := box_at HOa32.out (j := 1) rfl
      have cOa_2 := box_at HOa32.out (j := 2) rfl
      have cOa_3 := box_at HOa32.out (j := 3) rfl
      have cOa_4 := box_at HOa32.out (j := 4) rfl
      have cOb_0 := box_at HOb32.out (j := 0) rfl
      have cOb_1 := box_at HOb32.out (j := 1) rfl
      have cOb_2 := box_at HOb32.out (j := 2) rfl
      have cOb_3 := box_at HOb32.out (j := 3) rfl
      have cOb_4 := box_at HOb32.out (j := 4) rfl
      go_wp2_with fail
      refine (ull_finish HUF32.out p fa fb _ _ _ _ 16 6 6 sq 0 0 0 0 (.slice none 0 0) true rfl (by show v < 1000000; omega) (by rw [HTF.out.2.2.1]; omega) (by omega) (by omega) (by rw [HTF.out.2.1]; omega) (by rcases HTF.out.2.2.2.1 with h | h <;> rw [h] <;> omega) (by have h1 := fout_il (qof xk p) 0 A; rw [← HFA.out] at h1; have := HAL.out; omega) (by simp) (by simp) (by simp) (by simp)).mono ?_
      rintro e w33 ⟨r, hr, rfl, hU33, hl33⟩
      clear cQ_0 cQ_1 cQ_2 cQ_3 cQ_4 cQ_5 cQ_6 cM_0 cM_1 cM_2 cM_3 cM_4 cM_5 cM_6 cM_7 cM_8 cOa_0 cOa_1 cOa_2 cOa_3 cOa_4 cOb_0 cOb_1 cOb_2 cOb_3 cOb_4
      have HLF := Lib.hid hl33
      have HUG := Lib.hid hU33
      have hr' : r = attU xk ⟨im, v, false, [], 0⟩ p sq en o t := by
        unfold attU
        rw [show (⟨im, v, false, [], 0⟩ : Ps).image = im from rfl, HTA.out, HTB.out, ← HFA.out, ← HFB.out]; exact hr
      have HAT := Lib.hid (att_any (v := v) (im := im) (p := p) (ms := en) (o := o) (t := t) HTr.out hd ha hse (by rw [HOO.out]) (by rw [HOO.out]) (by rw [HOO.out]; exact (cost_bound (n := im.length) (m := nx.length) (by omega) (by omega)).1) (by rw [HOO.out]; exact (cost_bound (n := im.length) (m := nx.length) (by omega) (by omega)).2.1) ht0 ht1 (by have := HOL.out; omega))
      rw [← hr'] at HAT
      clear hr hr' hU33 hl33 HUF32 HFA HFB HTA HTB HAL HBL
      clear HX32
      clear HM32
      clear HO32
      clear HQ32
      clear HBZ32
      clear HOa32
      clear HOb32
      have HEQ : Hid (∀ z ∈ LL, w33.heap[z]? = w9.heap[z]?) := Lib.hid (fun z hz => (HLF.out z hz).trans ((bel32.block z (HLT.out z hz)).trans (HLK.out z hz)))
      have hre := HAT.out.1
      clear HLF bel32
      obtain ⟨vc, hvc⟩ : ∃ c, c = r.c := ⟨_, rfl⟩
      obtain ⟨vs, hvs⟩ : ∃ c, c = r.st := ⟨_, rfl⟩
      rw [hre, ← hvc, ← hvs]
      have HVC := Lib.hid hvc
      clear hre hvc hvs
      have bel33 := Below.refl w33.heap.size w33
      obtain ⟨V, hV⟩ : ∃ O, O = w33.heap.size := ⟨_, rfl⟩
      obtain ⟨w34, hw34⟩ : ∃ W, W = w33.alloc (.cells #[.int .i64 vc, .int .i64 vs] 55) := ⟨_, rfl⟩
      have hb34 : Below w33.heap.size w33 w34 := by rw [hw34]; exact (Below.refl _ _).alloc (Nat.le_refl _) _
      have hxV : w34.heap[V]? = some (.cells #[.int .i64 vc, .int .i64 vs] 55 (0, 0)) := by rw [hw34, hV]; exact heap_alloc_new w33 _
      have HW34 := Lib.hid hw34
      have HRV := Lib.hid hV
      have hz34 : w34.heap.size = w33.heap.size + 1 := by rw [hw34]; simp
      have HLV : Hid (w33.heap.size ≤ V ∧ V < w34.heap.size) := Lib.hid (by omega)
      have HZ34 := Lib.hid hz34
      clear hw34 hV hz34
      go_upto_region 16 with (fail)
      rw [← HW34.out, ← HRV.out]
      clear HW34 HRV 
      have bel34 := bel33.trans (hb34.mono bel33.size)
      have HV34 := Lib.hid (hxV)
      clear hb34 hxV
      have HBV : Hid (∀ z ∈ LL, w34.heap[z]? = w9.heap[z]?) := Lib.hid (fun z hz => (bel34.block z (by have := HUG.out.lt z hz; omega)).trans (HEQ.out z hz))
      have HUG34 := Lib.hid (HUG.out.below bel34)
      clear HUG HEQ
      rcases HAT.out.2 with ⟨a0, a1, a2⟩ | ⟨⟨hk0, hxk⟩, a0, st, s0, s1, a1, a2⟩
      · obtain rfl : vc = 0 := HVC.out.trans a0
        rw [a1, a2] at HUG34
        have cV_0 := box_at HV34.out (j := 0) rfl
        have cV_1 := box_at HV34.out (j := 1) rfl
        go_wp2
        go_ret
        have hoi : o.im = nx := by rw [HOO.out]
        rw [hoi] at HUG34
        have hm := trk_more HTr.out hg0
        exact ⟨rfl, { xk with led := led, num := xk.num + 1, att := 1 }, HTF.out.1, rfl, by show xk.num + 1 = x.num + 1; rw [HTF.out.2.1], HTF.out.2.2.2.2, rfl, hm.1, hm.2.1, hm.2.2.1, hm.2.2.2, HUG34.out.sub (fun q hq => List.mem_append_right _ (MRs.out q hq)) (fun z hz => MLs.out z hz), fun z hz => (HBV.out z (MLs.out z hz)).trans (bel9.block z (H.lt z hz))⟩
      · subst hk0
        subst hxk
        have hvc : vc ≠ 0 := by rw [HVC.out]; exact a0
        rw [a1, a2] at HUG34
        have cV_0 := box_at HV34.out (j := 0) rfl
        have cV_1 := box_at HV34.out (j := 1) rfl
        have hcell := box_at ((HBV.out X ML1.out).trans HX9.out) (j := 12) rfl
        go_wp2_with fail
        refine (ull_restart HUG34.out _ ⟨by show 0 ≤ xk.gr; omega, by show xk.gr ≤ 1000000; omega⟩).mono ?_
        rintro e w35 ⟨r2, hr2, rfl, hU35, hl35⟩
        have hst : o.st = cost im.length nx.length 1 := by rw [HOO.out]
        have hoi : o.im = nx := by rw [HOO.out]
        rw [hst, hoi] at s1
        have hnx := trk_next (im := im) (v := v) (n := im.length) (m := nx.length) hd ha (Int.emod_two_eq md) hg0 hlo0 hlo1 s0 s1 rfl hil hnl
        rw [← hr2] at hnx
        obtain ⟨hz2, hT2⟩ := hnx
        rw [hz2]
        have HT2 := Lib.hid hT2
        have HU2 := Lib.hid (hU35.sub (rows' := R) (L' := LL) (fun q hq => List.mem_append_right _ hq) (fun z hz => hz))
        have HL2 := Lib.hid hl35
        clear hU35 hl35 hr2 hT2 hz2 s1 hst hoi
        go_wp2
        go_roundw
        case rel => exact ⟨1, by omega, by go_num, r2.1, HT2.out, HU2.out, fun z hz => (HL2.out z hz).trans (HBV.out z hz)⟩
        case measure => simp [intOf]
end Go.Proofs.YtplhmoapcicncaaGreat
