/- UnitFailed: its walk -/
import Derived.Test.YtfepaminfjamfaaHk
import Derived.Test.YtfepaminfjamfaaTz
namespace Go.Im
end Go.Im
namespace Go.Im
open Go Go.RowKit Go.Bs Go.Cl Go.Rw Go.Un Go.Fa
def fx : Us := ⟨6, [], 1, 1, 1, 2, 2, false, 0⟩
def fs (im : List UInt8) : Ps := ⟨im, 0, false, [], 0⟩
theorem ULiv.llc {w0 w : World} {u : Nat} {x : Us} {s : Ps} {rows : List (Value × List UInt8)} (H : ULiv w0 u x s rows w) (hl : x.led = []) (L : List Nat) (hL : ∀ z ∈ L, z < w0.heap.size) : ULL w0 u x s rows L w := by
  obtain ⟨h1, base, g, h, iv, rv, lv, h2, h3, h4, h5⟩ := H
  refine ⟨h1, base, g, h, iv, rv, lv, h2, h3, h4, h5, fun z hz => ⟨Nat.lt_of_lt_of_le (hL z hz) h1.size, fun hm => ?_⟩, ?_⟩
  · have := h4.ufb h3 z hm; have := hL z hz; omega
  · have hr := h4.hl
    rw [hl] at hr ⊢
    obtain ⟨q1, q2, a, cap, e, q3, q4, q5⟩ := hr
    exact ⟨q1, q2, a, cap, e, q3, q4, fun h => absurd h (by simp)⟩
theorem own_keepT {w w' : World} {base e k n A : Nat} {t : TypeId} {v : Value} {xs : List Value} {cs : Array Value} (h : w.ownsRow base e k v n xs) (hA : w.heap[A]? = some (.cells cs t (0, 0))) (ht : e ≠ t) (hk : Keep [A] w w') : w'.ownsRow base e k v n xs := own_keep h hk (fun r hr hm => by
  rw [List.mem_singleton] at hm
  subst hm
  obtain ⟨cur, hc⟩ := own_type h hr
  rw [hc] at hA
  cases hA
  exact ht rfl)
theorem finU_gr (x : Us) (s : Ps) (p : FP) (ms mq : Int) (a b : Oc) (pm : Bool) : (finU x s p ms mq a b pm).x.gr = x.gr := by
  unfold finU downed
  split <;> try rfl
  split <;> try rfl
  split <;> try rfl
  split
  · split <;> rfl
  · rfl
theorem fin_fresh {im : List UInt8} {p : FP} {ms mq : Int} {a b : Oc} {pm : Bool} {r : FR} (hr : r = finU fx (fs im) p ms mq a b pm) : (r.e = 0 ∧ r.c = 0 ∧ r.x.down = false ∧ r.x.lost = 0 ∧ r.s.image = a.im) ∨ (r.e ≠ 0 ∧ r.x = fx ∧ r.s = fs im) ∨ (r.e = 0 ∧ r.c ≠ 0 ∧ r.x = downed fx r.st ∧ r.s = fs im) := by
  subst hr
  unfold finU
  split
  · exact .inr (.inl ⟨by simp, rfl, rfl⟩)
  split
  · rename_i h; exact .inr (.inl ⟨h, rfl, rfl⟩)
  split
  · exact .inr (.inl ⟨by simp, rfl, rfl⟩)
  split
  · split
    · exact .inl ⟨rfl, rfl, rfl, rfl, rfl⟩
    · exact .inr (.inr ⟨rfl, by simp, rfl, rfl⟩)
  · rename_i h; exact .inr (.inr ⟨rfl, h, rfl, rfl⟩)
theorem sl_nil {w w' : World} {a : Option Addr} {n c : Nat} {l : List Lg.Lt} (h : Lg.SlL w (.slice a n c) l) (hl : l = []) : Lg.SlL w' (.slice a n c) l := by
  subst hl
  obtain ⟨q1, q2, a', cap, e, q3, q4, q5⟩ := h
  exact ⟨q1, q2, a', cap, e, q3, q4, fun h => absurd h (by simp)⟩
theorem foldl_set (n : Nat) : ∀ (vs : List Value) (i : Nat) (z : Array Value), i + vs.length = n → z.size = n → ((vs.zipIdx i).foldl (fun (cs : Array Value) (x : Value × Nat) => cs.setIfInBounds x.snd x.fst) z) = ((z.toList.take i) ++ vs).toArray
  | [], i, z, h, hz => by
    simp at h ⊢
    rw [List.take_of_length_le (by simp; omega)]
  | v :: vs, i, z, h, hz => by
    simp only [List.zipIdx_cons, List.foldl_cons]
    simp at h
    rw [foldl_set n vs (i + 1) (z.setIfInBounds i v) (by omega) (by simpa using hz)]
    congr 1
    rw [show vs = vs from rfl, ← List.singleton_append (x := v), ← List.append_assoc]
    congr 1
    simp only [Array.toList_setIfInBounds]
    rw [List.take_add_one]
    simp [List.take_set_of_le, List.getElem?_set, hz]
    omega
theorem fold_arr {z CC : Array Value} {n : Nat} (hz : z.size = n) (h : CC.size = n) : Array.foldl (fun (cs : Array Value) (x : Value × Nat) => cs.setIfInBounds x.snd x.fst) z CC.zipIdx 0 n = CC := by
  subst h
  have : CC.size = CC.zipIdx.size := by simp
  rw [this, ← Array.foldl_toList]
  have := foldl_set CC.size CC.toList 0 z (by simp) hz
  simpa using this
theorem wpList_load_row' {P : Program} {Q : Exit → Act → World → Prop} {ops : Array Oper} {rest : List Oper} {o : Oper} {a : Act} {w : World} (hgd : Region.wanted o (yielded ops a.tmps) = true) (ty : TypeId) (x : Operand) (ho : o.op = .load ty x)
    (g : Nat) (hx : a.eval x = .pointer (some ⟨g, 0, none⟩)) (t : TypeId) (cs : Array Value) (fr : Nat × Nat) (d : TypeDesc) (hg : w.heap[g]? = some (.cells cs t fr))
    (hu : P.underlying ty = some d) (hd : (match d with | .struct _ | .array _ _ => true | _ => false) = true) (hi : (P.info? ty).map (·.size) = some cs.size)
    (h : wpList P ops Q rest (a.put o.dst (.agg cs)) w) : wpList P ops Q (o :: rest) a w :=
  wpList_step fun K hK => by simp only [hgd, if_true]; exact wp_load_row ty x ho g hx t cs fr d hg hu hd hi (hK _ _ h)
theorem wrap_lost (a k : Int) : wrap64 (wrap64 (0 + a) + k) = wrap64 (a + k) := by unfold wrap64; omega
end Go.Im
namespace Go.Proofs.Ytfepaminfjamfaa
open Go.RowKit Go.Bs Go.Cl Go.Rw Go.Un Go.Im Go.Fa
theorem ull_outcomes2 {w0 w : World} {u : Nat} {x : Us} {s : Ps} {rows : List (Value × List UInt8)} {L : List Nat} (H : ULL w0 u x s rows L w) (p : FP) (a b : Oc) (i1 e1 i2 e2 : Value) (hal : a.im.length ≤ 24000) (hael : a.ef.length ≤ 24000) (hbl : b.im.length ≤ 24000) (hbel : b.ef.length ≤ 24000) (hI1 : Bytes [] w i1 a.im) (hE1 : Bytes [] w e1 a.ef) (hI2 : Bytes [] w i2 b.im) (hE2 : Bytes [] w e2 b.ef) :
    Calls Try.prog 9 #[.pointer (some ⟨u, 0, none⟩), .agg p.cs, .agg #[.int .i64 a.en, .int .i64 a.st, .int .i64 a.er, i1, e1], .agg #[.int .i64 b.en, .int .i64 b.st, .int .i64 b.er, i2, e2]] w fun e w' => ∃ fa fb ia ea ib eb, fa = fout (if p.hits x.task x.num x.att then p else FP.none) 0 a ∧ fb = fout (if p.hits x.task x.num x.att then p else FP.none) 1 b ∧
      e = .returned (.tuple #[.agg #[.int .i64 fa.en, .int .i64 fa.st, .int .i64 fa.er, ia, ea], .agg #[.int .i64 fb.en, .int .i64 fb.st, .int .i64 fb.er, ib, eb]]) ∧
      w'.ownsRow w.heap.size 5 1 ia fa.im.length (bytesV fa.im) ∧ w'.ownsRow w.heap.size 5 1 ea fa.ef.length (bytesV fa.ef) ∧ w'.ownsRow w.heap.size 5 1 ib fb.im.length (bytesV fb.im) ∧ w'.ownsRow w.heap.size 5 1 eb fb.ef.length (bytesV fb.ef) ∧ Below w.heap.size w w' := by
  obtain ⟨_, base, g, h, iv, rv, lv, _, _, h4, _, _, _⟩ := H
  exact outcomes_any h4 p a b i1 e1 i2 e2 hal hael hbl hbel hI1 hE1 hI2 hE2
theorem share_a0 {G : Prop} {F C : World → Nat → Option Addr → Nat → Option Addr → Nat → Prop} (h : Hid (∀ (y2 : World) (A : Nat) (ta1 : Option Addr) (ta2 : Nat) (te1 : Option Addr) (te2 : Nat), C y2 A ta1 ta2 te1 te2 → F y2 A ta1 ta2 te1 te2) → G) (t : ∀ (y2 : World) (A : Nat) (ta1 : Option Addr) (ta2 : Nat) (te1 : Option Addr) (te2 : Nat), C y2 A ta1 ta2 te1 te2 → F y2 A ta1 ta2 te1 te2) : G := h (Lib.hid t)
theorem share_a1 {G : Prop} {F C : World → Nat → Option Addr → Nat → Option Addr → Nat → Prop} (h : Hid (∀ (y2 : World) (B : Nat) (ta1 : Option Addr) (ta2 : Nat) (te1 : Option Addr) (te2 : Nat), C y2 B ta1 ta2 te1 te2 → F y2 B ta1 ta2 te1 te2) → G) (t : ∀ (y2 : World) (B : Nat) (ta1 : Option Addr) (ta2 : Nat) (te1 : Option Addr) (te2 : Nat), C y2 B ta1 ta2 te1 te2 → F y2 B ta1 ta2 te1 te2) : G := h (Lib.hid t)
theorem share_a2 {G : Prop} {F C : World → Nat → Nat → Prop} (h : Hid (∀ (y2 : World) (A : Nat) (B : Nat), C y2 A B → F y2 A B) → G) (t : ∀ (y2 : World) (A : Nat) (B : Nat), C y2 A B → F y2 A B) : G := h (Lib.hid t)
theorem share_a3 {G : Prop} {F C : World → Nat → Option Addr → Nat → Option Addr → Nat → Option Addr → Nat → Option Addr → Nat → Prop} (h : Hid (∀ (y3 : World) (A : Nat) (ta1 : Option Addr) (ta2 : Nat) (te1 : Option Addr) (te2 : Nat) (tb1 : Option Addr) (tb2 : Nat) (tf1 : Option Addr) (tf2 : Nat), C y3 A ta1 ta2 te1 te2 tb1 tb2 tf1 tf2 → F y3 A ta1 ta2 te1 te2 tb1 tb2 tf1 tf2) → G) (t : ∀ (y3 : World) (A : Nat) (ta1 : Option Addr) (ta2 : Nat) (te1 : Option Addr) (te2 : Nat) (tb1 : Option Addr) (tb2 : Nat) (tf1 : Option Addr) (tf2 : Nat), C y3 A ta1 ta2 te1 te2 tb1 tb2 tf1 tf2 → F y3 A ta1 ta2 te1 te2 tb1 tb2 tf1 tf2) : G := h (Lib.hid t)
theorem share_a4 {G : Prop} {F C : World → Nat → Option Addr → Nat → Option Addr → Nat → Option Addr → Nat → Option Addr → Nat → Prop} (h : Hid (∀ (y3 : World) (B : Nat) (ta1 : Option Addr) (ta2 : Nat) (te1 : Option Addr) (te2 : Nat) (tb1 : Option Addr) (tb2 : Nat) (tf1 : Option Addr) (tf2 : Nat), C y3 B ta1 ta2 te1 te2 tb1 tb2 tf1 tf2 → F y3 B ta1 ta2 te1 te2 tb1 tb2 tf1 tf2) → G) (t : ∀ (y3 : World) (B : Nat) (ta1 : Option Addr) (ta2 : Nat) (te1 : Option Addr) (te2 : Nat) (tb1 : Option Addr) (tb2 : Nat) (tf1 : Option Addr) (tf2 : Nat), C y3 B ta1 ta2 te1 te2 tb1 tb2 tf1 tf2 → F y3 B ta1 ta2 te1 te2 tb1 tb2 tf1 tf2) : G := h (Lib.hid t)
theorem share_a5 {G : Prop} {F C : World → Nat → Nat → Option Addr → Nat → Option Addr → Nat → Prop} (h : Hid (∀ (y3 : World) (A : Nat) (B : Nat) (ta1 : Option Addr) (ta2 : Nat) (te1 : Option Addr) (te2 : Nat), C y3 A B ta1 ta2 te1 te2 → F y3 A B ta1 ta2 te1 te2) → G) (t : ∀ (y3 : World) (A : Nat) (B : Nat) (ta1 : Option Addr) (ta2 : Nat) (te1 : Option Addr) (te2 : Nat), C y3 A B ta1 ta2 te1 te2 → F y3 A B ta1 ta2 te1 te2) : G := h (Lib.hid t)
theorem share_a6 {G : Prop} {F C : World → Nat → Nat → Option Addr → Nat → Option Addr → Nat → Option Addr → Nat → Option Addr → Nat → Prop} (h : Hid (∀ (y4 : World) (A : Nat) (B : Nat) (ta1 : Option Addr) (ta2 : Nat) (te1 : Option Addr) (te2 : Nat) (tb1 : Option Addr) (tb2 : Nat) (tf1 : Option Addr) (tf2 : Nat), C y4 A B ta1 ta2 te1 te2 tb1 tb2 tf1 tf2 → F y4 A B ta1 ta2 te1 te2 tb1 tb2 tf1 tf2) → G) (t : ∀ (y4 : World) (A : Nat) (B : Nat) (ta1 : Option Addr) (ta2 : Nat) (te1 : Option Addr) (te2 : Nat) (tb1 : Option Addr) (tb2 : Nat) (tf1 : Option Addr) (tf2 : Nat), C y4 A B ta1 ta2 te1 te2 tb1 tb2 tf1 tf2 → F y4 A B ta1 ta2 te1 te2 tb1 tb2 tf1 tf2) : G := h (Lib.hid t)
theorem share_a7 {G : Prop} {F C : World → Nat → Option Addr → Nat → Option Addr → Nat → Option Addr → Nat → Option Addr → Nat → Oc → Oc → Option Addr → Nat → Option Addr → Nat → Option Addr → Nat → Option Addr → Nat → Prop} (h : Hid (∀ (y4 : World) (A : Nat) (ta1 : Option Addr) (ta2 : Nat) (te1 : Option Addr) (te2 : Nat) (tb1 : Option Addr) (tb2 : Nat) (tf1 : Option Addr) (tf2 : Nat) (fa : Oc) (fb : Oc) (ja1 : Option Addr) (ja2 : Nat) (je1 : Option Addr) (je2 : Nat) (jb1 : Option Addr) (jb2 : Nat) (jf1 : Option Addr) (jf2 : Nat), C y4 A ta1 ta2 te1 te2 tb1 tb2 tf1 tf2 fa fb ja1 ja2 je1 je2 jb1 jb2 jf1 jf2 → F y4 A ta1 ta2 te1 te2 tb1 tb2 tf1 tf2 fa fb ja1 ja2 je1 je2 jb1 jb2 jf1 jf2) → G) (t : ∀ (y4 : World) (A : Nat) (ta1 : Option Addr) (ta2 : Nat) (te1 : Option Addr) (te2 : Nat) (tb1 : Option Addr) (tb2 : Nat) (tf1 : Option Addr) (tf2 : Nat) (fa : Oc) (fb : Oc) (ja1 : Option Addr) (ja2 : Nat) (je1 : Option Addr) (je2 : Nat) (jb1 : Option Addr) (jb2 : Nat) (jf1 : Option Addr) (jf2 : Nat), C y4 A ta1 ta2 te1 te2 tb1 tb2 tf1 tf2 fa fb ja1 ja2 je1 je2 jb1 jb2 jf1 jf2 → F y4 A ta1 ta2 te1 te2 tb1 tb2 tf1 tf2 fa fb ja1 ja2 je1 je2 jb1 jb2 jf1 jf2) : G := h (Lib.hid t)
theorem share_a8 {G : Prop} {F C : World → Nat → Option Addr → Nat → Option Addr → Nat → Option Addr → Nat → Option Addr → Nat → Oc → Oc → Option Addr → Nat → Option Addr → Nat → Option Addr → Nat → Option Addr → Nat → Prop} (h : Hid (∀ (y4 : World) (B : Nat) (ta1 : Option Addr) (ta2 : Nat) (te1 : Option Addr) (te2 : Nat) (tb1 : Option Addr) (tb2 : Nat) (tf1 : Option Addr) (tf2 : Nat) (fa : Oc) (fb : Oc) (ja1 : Option Addr) (ja2 : Nat) (je1 : Option Addr) (je2 : Nat) (jb1 : Option Addr) (jb2 : Nat) (jf1 : Option Addr) (jf2 : Nat), C y4 B ta1 ta2 te1 te2 tb1 tb2 tf1 tf2 fa fb ja1 ja2 je1 je2 jb1 jb2 jf1 jf2 → F y4 B ta1 ta2 te1 te2 tb1 tb2 tf1 tf2 fa fb ja1 ja2 je1 je2 jb1 jb2 jf1 jf2) → G) (t : ∀ (y4 : World) (B : Nat) (ta1 : Option Addr) (ta2 : Nat) (te1 : Option Addr) (te2 : Nat) (tb1 : Option Addr) (tb2 : Nat) (tf1 : Option Addr) (tf2 : Nat) (fa : Oc) (fb : Oc) (ja1 : Option Addr) (ja2 : Nat) (je1 : Option Addr) (je2 : Nat) (jb1 : Option Addr) (jb2 : Nat) (jf1 : Option Addr) (jf2 : Nat), C y4 B ta1 ta2 te1 te2 tb1 tb2 tf1 tf2 fa fb ja1 ja2 je1 je2 jb1 jb2 jf1 jf2 → F y4 B ta1 ta2 te1 te2 tb1 tb2 tf1 tf2 fa fb ja1 ja2 je1 je2 jb1 jb2 jf1 jf2) : G := h (Lib.hid t)
theorem share_a9 {G : Prop} {F C : World → Nat → Nat → Option Addr → Nat → Option Addr → Nat → Option Addr → Nat → Option Addr → Nat → Oc → Oc → Option Addr → Nat → Option Addr → Nat → Option Addr → Nat → Option Addr → Nat → Prop} (h : Hid (∀ (y5 : World) (A : Nat) (B : Nat) (ta1 : Option Addr) (ta2 : Nat) (te1 : Option Addr) (te2 : Nat) (tb1 : Option Addr) (tb2 : Nat) (tf1 : Option Addr) (tf2 : Nat) (fa : Oc) (fb : Oc) (ja1 : Option Addr) (ja2 : Nat) (je1 : Option Addr) (je2 : Nat) (jb1 : Option Addr) (jb2 : Nat) (jf1 : Option Addr) (jf2 : Nat), C y5 A B ta1 ta2 te1 te2 tb1 tb2 tf1 tf2 fa fb ja1 ja2 je1 je2 jb1 jb2 jf1 jf2 → F y5 A B ta1 ta2 te1 te2 tb1 tb2 tf1 tf2 fa fb ja1 ja2 je1 je2 jb1 jb2 jf1 jf2) → G) (t : ∀ (y5 : World) (A : Nat) (B : Nat) (ta1 : Option Addr) (ta2 : Nat) (te1 : Option Addr) (te2 : Nat) (tb1 : Option Addr) (tb2 : Nat) (tf1 : Option Addr) (tf2 : Nat) (fa : Oc) (fb : Oc) (ja1 : Option Addr) (ja2 : Nat) (je1 : Option Addr) (je2 : Nat) (jb1 : Option Addr) (jb2 : Nat) (jf1 : Option Addr) (jf2 : Nat), C y5 A B ta1 ta2 te1 te2 tb1 tb2 tf1 tf2 fa fb ja1 ja2 je1 je2 jb1 jb2 jf1 jf2 → F y5 A B ta1 ta2 te1 te2 tb1 tb2 tf1 tf2 fa fb ja1 ja2 je1 je2 jb1 jb2 jf1 jf2) : G := h (Lib.hid t)
set_option maxRecDepth 100000 in
set_option maxHeartbeats 100000000 in
theorem failed_any (im : List UInt8) (iv : Value) (c : CF) (ma ai ae bi be : Option Addr) (mc ac aec bc bec : Nat) (w : World) (hd : c.dl ≤ 1000000000000000) (h1 : c.a.im.length ≤ 1000000000000000) (h2 : c.a.ef.length ≤ 1000000000000000) (h3 : c.b.im.length ≤ 1000000000000000) (h4 : c.b.ef.length ≤ 1000000000000000)
    (hq1 : -9223372036854775808 ≤ c.mq) (hq2 : c.mq ≤ 9223372036854775807) (hI : Bytes [] w iv im) (hAi : Bytes [] w (.slice ai c.a.im.length ac) c.a.im) (hAe : Bytes [] w (.slice ae c.a.ef.length aec) c.a.ef) (hBi : Bytes [] w (.slice bi c.b.im.length bc) c.b.im) (hBe : Bytes [] w (.slice be c.b.ef.length bec) c.b.ef) :
    Calls Try.prog 3 #[iv, .agg #[.int .i64 c.op, .int .i64 c.mode, .int .i64 c.p.c, .int .i64 c.p.n, .int .i64 c.p.e, .int .i64 c.p.k, .int .i64 c.p.s, .int .i64 c.p.pl, .int .i64 c.p.m, .int .i64 c.ms, .int .i64 c.md, .int .i64 c.mt, .int .i64 c.mq, .int .i64 c.m0, .int .i64 c.m1, .int .i64 c.m2, .int .i64 c.m3, .slice ma c.dl mc, .int .i64 c.a.en, .int .i64 c.a.st, .int .i64 c.a.er, .slice ai c.a.im.length ac, .slice ae c.a.ef.length aec, .int .i64 c.b.en, .int .i64 c.b.st, .int .i64 c.b.er, .slice bi c.b.im.length bc, .slice be c.b.ef.length bec, .bool c.pm]] w fun e w' => e = .returned (.bool true) ∧ Below w.heap.size w w' := by
  obtain ⟨ia, ic, rfl⟩ := Raw.slice hI
  obtain ⟨C, hC⟩ : ∃ C, C = w.heap.size := ⟨_, rfl⟩
  obtain ⟨CC, hCC⟩ : ∃ cv : Array Value, cv = #[.int .i64 c.op, .int .i64 c.mode, .int .i64 c.p.c, .int .i64 c.p.n, .int .i64 c.p.e, .int .i64 c.p.k, .int .i64 c.p.s, .int .i64 c.p.pl, .int .i64 c.p.m, .int .i64 c.ms, .int .i64 c.md, .int .i64 c.mt, .int .i64 c.mq, .int .i64 c.m0, .int .i64 c.m1, .int .i64 c.m2, .int .i64 c.m3, .slice ma c.dl mc, .int .i64 c.a.en, .int .i64 c.a.st, .int .i64 c.a.er, .slice ai c.a.im.length ac, .slice ae c.a.ef.length aec, .int .i64 c.b.en, .int .i64 c.b.st, .int .i64 c.b.er, .slice bi c.b.im.length bc, .slice be c.b.ef.length bec, .bool c.pm] := ⟨_, rfl⟩
  have HCC := Lib.hid hCC
  have HCS : Hid ((Try.prog.info? 33).map (·.size) = some CC.size) := Lib.hid (by rw [hCC]; kernel_rfl)
  rw [← hCC]
  clear hCC
  obtain ⟨w1, hw1⟩ : ∃ W, W = w.alloc (.cells CC 33) := ⟨_, rfl⟩
  have HW := Lib.hid hw1
  have hb1 : Below w.heap.size w w1 := by rw [hw1]; exact (Below.refl _ w).alloc (Nat.le_refl _) _
  have HL1 := Lib.hid hb1
  have HC1 : Hid (w1.heap[C]? = some (.cells CC 33 (0, 0))) := Lib.hid (by rw [hw1, hC]; exact heap_alloc_new w _)
  have hC1 : C < w1.heap.size := (Array.getElem?_eq_some_iff.1 HC1.out).1
  have HI1 := Lib.hid (Raw.below hI hb1); have HP1 := Lib.hid (Raw.below hAi hb1); have HQ1 := Lib.hid (Raw.below hAe hb1); have HR1 := Lib.hid (Raw.below hBi hb1); have HT1 := Lib.hid (Raw.below hBe hb1)
  clear hw1 hb1 hI hAi hAe hBi hBe
  go_enter Try.func3, Try.ntmps3
  go_upto_region 1 with (fail)
  rw [← HW.out, ← hC]
  clear hC HW
  go_wp2_with fail
  refine (awake_any _).mono ?_
  rintro e w2 ⟨rfl, hb⟩
  have HL2 := Lib.hid (HL1.out.trans (hb.mono HL1.out.size))
  have HC2 := Lib.hid ((hb.block C hC1).trans HC1.out)
  have hC2 : C < w2.heap.size := by have := hb.size; omega
  have HI2 := Lib.hid (Raw.below HI1.out hb); have HP2 := Lib.hid (Raw.below HP1.out hb); have HQ2 := Lib.hid (Raw.below HQ1.out hb); have HR2 := Lib.hid (Raw.below HR1.out hb); have HT2 := Lib.hid (Raw.below HT1.out hb)
  clear hb HL1 HC1 hC1 HI1 HP1 HQ1 HR1 HT1
  by_cases hil : im.length ≤ 400
  rotate_left
  · have g1 : (400 : Int) < im.length := by omega
    go_wp2
    go_ret
    exact ⟨rfl, HL2.out⟩
  · have g1 : ¬ (400 : Int) < im.length := by omega
    have hcs : CC.size = 29 := by rw [HCC.out]; rfl
    go_wp2_with (refine wpList_load_row' (by simp [Region.wanted, yielded]; omega) 33 _ rfl C rfl 33 CC (0, 0) _ HC2.out Try.underlying33 rfl HCS.out ?_)
    clear hcs
    rw [fold_arr (CC := CC) ?hz (show CC.size = 29 by rw [HCC.out]; rfl)]
    case hz => rfl
    refine (few_any c ma ai ae bi be mc ac aec bc bec w2.heap.size _ hd h1 h2 h3 h4 (by rw [← HCC.out]; exact heap_alloc_new w2 _)).mono ?_
    rintro e w3 ⟨rfl, hb3⟩
    have hb : Below w2.heap.size w2 w3 := by
      have ba := (Below.refl w2.heap.size w2).alloc (Nat.le_refl _) (.cells CC 33)
      exact ba.trans (hb3.mono ba.size)
    have HL3 := Lib.hid (HL2.out.trans (hb.mono HL2.out.size))
    have HC3 := Lib.hid ((hb.block C hC2).trans HC2.out)
    have hC3 : C < w3.heap.size := by have := hb.size; omega
    have HI3 := Lib.hid (Raw.below HI2.out hb); have HP3 := Lib.hid (Raw.below HP2.out hb); have HQ3 := Lib.hid (Raw.below HQ2.out hb); have HR3 := Lib.hid (Raw.below HR2.out hb); have HT3 := Lib.hid (Raw.below HT2.out hb)
    clear hb hb3 HL2 HC2 hC2 HI2 HP2 HQ2 HR2 HT2
    cases hf : c.few
    · clear hf
      go_wp2
      go_ret
      exact ⟨rfl, HL3.out⟩
    obtain ⟨hfa, hfb⟩ : c.a.im.length + c.a.ef.length ≤ 400 ∧ c.b.im.length + c.b.ef.length ≤ 400 := by
      unfold CF.few at hf
      simp only [Bool.and_eq_true, decide_eq_true_eq] at hf
      exact hf.1
    clear hf
    go_wp2_with fail
    refine (unew_ok 6 _ im w3 w3 (by omega) (by omega) (by omega) (Below.refl _ _) HI3.out).mono ?_
    rintro e w4 ⟨u, rfl, hU⟩
    obtain ⟨rows, hrows⟩ : ∃ r, r = [(Value.slice ia im.length ic, im), (.slice ai c.a.im.length ac, c.a.im), (.slice ae c.a.ef.length aec, c.a.ef), (.slice bi c.b.im.length bc, c.b.im), (.slice be c.b.ef.length bec, c.b.ef)] := ⟨_, rfl⟩
    have m0 : (Value.slice ia im.length ic, im) ∈ rows := by rw [hrows]; simp
    have m1 : (Value.slice ai c.a.im.length ac, c.a.im) ∈ rows := by rw [hrows]; simp
    have m2 : (Value.slice ae c.a.ef.length aec, c.a.ef) ∈ rows := by rw [hrows]; simp
    have m3 : (Value.slice bi c.b.im.length bc, c.b.im) ∈ rows := by rw [hrows]; simp
    have m4 : (Value.slice be c.b.ef.length bec, c.b.ef) ∈ rows := by rw [hrows]; simp
    obtain ⟨x, hx⟩ : ∃ x, x = fx := ⟨_, rfl⟩
    obtain ⟨s, hs⟩ : ∃ s, s = fs im := ⟨_, rfl⟩
    have hU2 : ULL w3 u x s rows [C] w4 := by
      rw [hx, hs, hrows]
      exact (((((hU.llc rfl [C] (fun z hz => by rw [List.mem_singleton.1 hz]; exact hC3)).arg HT3.out).arg HR3.out).arg HQ3.out).arg HP3.out).arg HI3.out
    have HC4 := Lib.hid ((hU.1.block C hC3).trans HC3.out)
    have hC4 : C < w4.heap.size := (Array.getElem?_eq_some_iff.1 HC4.out).1
    have HU4 := Lib.hid hU2
    have HX := Lib.hid hx; have HS := Lib.hid hs
    have hled : x.led.length ≤ 1000 := by rw [hx]; decide
    clear hU hU2 hx hs hrows HC3 hC3 HI3 HP3 HQ3 HR3 HT3
    go_wp2_with fail
    refine (ull_ledger HU4.out hled).mono ?_
    rintro e w5 ⟨la, lc, rfl, hb, hsl, hU⟩
    have HU5 := Lib.hid hU
    have HSL5 := Lib.hid hsl
    have HC5 := Lib.hid ((hb.block C hC4).trans HC4.out)
    have hC5 : C < w5.heap.size := by have := hb.size; omega
    clear hb hU hsl HC4 hC4 HU4
    have hCl := hC5
    go_upto_region 7 with (fail)
    go_cut [8, 9] from 34 to 48 (fun s8 s9 wx => ∃ (A B : Nat) (fa fb : Oc) (ja1 : Option Addr) (ja2 : Nat) (je1 : Option Addr) (je2 : Nat) (jb1 : Option Addr) (jb2 : Nat) (jf1 : Option Addr) (jf2 : Nat), fa = fout (if c.p.hits x.task x.num x.att then c.p else FP.none) 0 c.a ∧ fb = fout (if c.p.hits x.task x.num x.att then c.p else FP.none) 1 c.b ∧ s8 = .pointer (some ⟨A, 0, none⟩) ∧ s9 = .pointer (some ⟨B, 0, none⟩) ∧ wx.heap[A]? = some (.cells #[.int .i64 fa.en, .int .i64 fa.st, .int .i64 fa.er, (.slice ja1 fa.im.length ja2), (.slice je1 fa.ef.length je2)] 43 (0, 0)) ∧ wx.heap[B]? = some (.cells #[.int .i64 fb.en, .int .i64 fb.st, .int .i64 fb.er, (.slice jb1 fb.im.length jb2), (.slice jf1 fb.ef.length jf2)] 43 (0, 0)) ∧ ULL w3 u x s ([(Value.slice ja1 fa.im.length ja2, fa.im), (.slice je1 fa.ef.length je2, fa.ef), (.slice jb1 fb.im.length jb2, fb.im), (.slice jf1 fb.ef.length jf2, fb.ef)] ++ rows) [A, B, C] wx ∧ wx.heap[C]? = some (.cells CC 33 (0, 0)))
    case first =>
      have hBl := show ∀ z ∈ [C], ∃ cc e f, w5.heap[z]? = some (.cells cc e f) from fun z hz => by rw [List.mem_singleton.1 hz]; exact ⟨_, _, _, HC5.out⟩
      refine Txt.Tz.wp_treeN [C] [2, 5, 9] [17, 18] [2, 5, 9] [0, 1, 2, 3, 4, 5, 7, 8, 9] (.alt [6] (.alt [10] (.alt [11, 12, 13, 14] (.alt [15] (.alt [16] (.alt [17] (.alt [18] (.done) (.no)) (.no)) (.no)) (.alt [16] (.alt [15] (.alt [17] (.alt [18] (.done) (.no)) (.no)) (.no)) (.no))) (.alt [15] (.alt [11, 12, 13, 14] (.alt [16] (.alt [17] (.alt [18] (.done) (.no)) (.no)) (.no)) (.alt [16] (.alt [11, 12, 13, 14] (.alt [17] (.alt [18] (.done) (.no)) (.no)) (.no)) (.no))) (.alt [16] (.alt [11, 12, 13, 14] (.alt [15] (.alt [17] (.alt [18] (.done) (.no)) (.no)) (.no)) (.alt [15] (.alt [11, 12, 13, 14] (.alt [17] (.alt [18] (.done) (.no)) (.no)) (.no)) (.no))) (.no)))) (.alt [15] (.alt [10] (.alt [11, 12, 13, 14] (.alt [16] (.alt [17] (.alt [18] (.done) (.no)) (.no)) (.no)) (.alt [16] (.alt [11, 12, 13, 14] (.alt [17] (.alt [18] (.done) (.no)) (.no)) (.no)) (.no))) (.alt [16] (.alt [10] (.alt [11, 12, 13, 14] (.alt [17] (.alt [18] (.done) (.no)) (.no)) (.no)) (.no)) (.no))) (.alt [16] (.alt [10] (.alt [11, 12, 13, 14] (.alt [15] (.alt [17] (.alt [18] (.done) (.no)) (.no)) (.no)) (.alt [15] (.alt [11, 12, 13, 14] (.alt [17] (.alt [18] (.done) (.no)) (.no)) (.no)) (.no))) (.alt [15] (.alt [10] (.alt [11, 12, 13, 14] (.alt [17] (.alt [18] (.done) (.no)) (.no)) (.no)) (.no)) (.no))) (.no)))) (.alt [15] (.alt [6] (.alt [10] (.alt [11, 12, 13, 14] (.alt [16] (.alt [17] (.alt [18] (.done) (.no)) (.no)) (.no)) (.alt [16] (.alt [11, 12, 13, 14] (.alt [17] (.alt [18] (.done) (.no)) (.no)) (.no)) (.no))) (.alt [16] (.alt [10] (.alt [11, 12, 13, 14] (.alt [17] (.alt [18] (.done) (.no)) (.no)) (.no)) (.no)) (.no))) (.alt [16] (.alt [6] (.alt [10] (.alt [11, 12, 13, 14] (.alt [17] (.alt [18] (.done) (.no)) (.no)) (.no)) (.no)) (.no)) (.no))) (.alt [16] (.alt [6] (.alt [10] (.alt [11, 12, 13, 14] (.alt [15] (.alt [17] (.alt [18] (.done) (.no)) (.no)) (.no)) (.alt [15] (.alt [11, 12, 13, 14] (.alt [17] (.alt [18] (.done) (.no)) (.no)) (.no)) (.no))) (.alt [15] (.alt [10] (.alt [11, 12, 13, 14] (.alt [17] (.alt [18] (.done) (.no)) (.no)) (.no)) (.no)) (.no))) (.alt [15] (.alt [6] (.alt [10] (.alt [11, 12, 13, 14] (.alt [17] (.alt [18] (.done) (.no)) (.no)) (.no)) (.no)) (.no)) (.no))) (.no)))) [0, 0, 2, 0, 8, 16, 32, 0, 128, 256, 576, 1093, 2048, 4096, 4096, 0, 0, 114687, 262143] 29631 (by kernel_rfl) (by kernel_rfl) (by kernel_rfl) (by kernel_rfl) (by kernel_rfl) (by kernel_rfl) hBl ?_
      obtain ⟨y0, hy0⟩ : ∃ y, y = w5.drew := ⟨_, rfl⟩
      have HS0 : Hid (Txt.SameB [C] y0 y0) := Lib.hid (by rw [hy0]; exact same_start hBl)
      clear hBl
      rw [← hy0]
      have hd : Below w5.heap.size w5 y0 := by rw [hy0]; exact (Below.refl _ _).drew
      have HU0 := Lib.hid (HU5.out.below hd)
      have HC0 := Lib.hid ((hd.block C hCl).trans HC5.out)
      have HD0 := Lib.hid (Below.refl y0.heap.size y0)
      have hz0 : y0.heap.size ≤ y0.heap.size := Nat.le_refl _
      have HRa := Lib.hid (HU0.out.bytes m1); have HRe := Lib.hid (HU0.out.bytes m2)
      have HRb := Lib.hid (HU0.out.bytes m3); have HRf := Lib.hid (HU0.out.bytes m4)
      clear hy0 hd
      apply share_a9 (C := fun y5 A B ta1 ta2 te1 te2 tb1 tb2 tf1 tf2 fa fb ja1 ja2 je1 je2 jb1 jb2 jf1 jf2 => (Below y0.heap.size y0 y5) ∧ (y0.heap.size ≤ y5.heap.size) ∧ (Txt.SameB [C] y0 y5) ∧ (y5.ownsRow y0.heap.size 5 1 (.slice ja1 fa.im.length ja2) fa.im.length (bytesV fa.im)) ∧ (y5.ownsRow y0.heap.size 5 1 (.slice je1 fa.ef.length je2) fa.ef.length (bytesV fa.ef)) ∧ (y5.ownsRow y0.heap.size 5 1 (.slice jb1 fb.im.length jb2) fb.im.length (bytesV fb.im)) ∧ (y5.ownsRow y0.heap.size 5 1 (.slice jf1 fb.ef.length jf2) fb.ef.length (bytesV fb.ef)) ∧ (fa = fout (if c.p.hits x.task x.num x.att then c.p else FP.none) 0 c.a) ∧ (fb = fout (if c.p.hits x.task x.num x.att then c.p else FP.none) 1 c.b) ∧ (y5.heap[A]? = some (.cells #[.int .i64 0, .int .i64 0, .int .i64 0, .slice none 0 0, .slice none 0 0] 43 (0, 0))) ∧ (A < y5.heap.size) ∧ (y0.heap.size ≤ A) ∧ (y5.heap[B]? = some (.cells #[.int .i64 0, .int .i64 0, .int .i64 0, .slice none 0 0, .slice none 0 0] 43 (0, 0))) ∧ (B < y5.heap.size) ∧ (y0.heap.size ≤ B) ∧ (A ≠ B))
      · intro Ta9
        apply share_a8 (C := fun y4 B ta1 ta2 te1 te2 tb1 tb2 tf1 tf2 fa fb ja1 ja2 je1 je2 jb1 jb2 jf1 jf2 => (Below y0.heap.size y0 y4) ∧ (y0.heap.size ≤ y4.heap.size) ∧ (Txt.SameB [C] y0 y4) ∧ (y4.ownsRow y0.heap.size 5 1 (.slice ja1 fa.im.length ja2) fa.im.length (bytesV fa.im)) ∧ (y4.ownsRow y0.heap.size 5 1 (.slice je1 fa.ef.length je2) fa.ef.length (bytesV fa.ef)) ∧ (y4.ownsRow y0.heap.size 5 1 (.slice jb1 fb.im.length jb2) fb.im.length (bytesV fb.im)) ∧ (y4.ownsRow y0.heap.size 5 1 (.slice jf1 fb.ef.length jf2) fb.ef.length (bytesV fb.ef)) ∧ (fa = fout (if c.p.hits x.task x.num x.att then c.p else FP.none) 0 c.a) ∧ (fb = fout (if c.p.hits x.task x.num x.att then c.p else FP.none) 1 c.b) ∧ (y4.heap[B]? = some (.cells #[.int .i64 0, .int .i64 0, .int .i64 0, .slice none 0 0, .slice none 0 0] 43 (0, 0))) ∧ (B < y4.heap.size) ∧ (y0.heap.size ≤ B))
        · intro Ta8
          apply share_a7 (C := fun y4 A ta1 ta2 te1 te2 tb1 tb2 tf1 tf2 fa fb ja1 ja2 je1 je2 jb1 jb2 jf1 jf2 => (Below y0.heap.size y0 y4) ∧ (y0.heap.size ≤ y4.heap.size) ∧ (Txt.SameB [C] y0 y4) ∧ (y4.ownsRow y0.heap.size 5 1 (.slice ja1 fa.im.length ja2) fa.im.length (bytesV fa.im)) ∧ (y4.ownsRow y0.heap.size 5 1 (.slice je1 fa.ef.length je2) fa.ef.length (bytesV fa.ef)) ∧ (y4.ownsRow y0.heap.size 5 1 (.slice jb1 fb.im.length jb2) fb.im.length (bytesV fb.im)) ∧ (y4.ownsRow y0.heap.size 5 1 (.slice jf1 fb.ef.length jf2) fb.ef.length (bytesV fb.ef)) ∧ (fa = fout (if c.p.hits x.task x.num x.att then c.p else FP.none) 0 c.a) ∧ (fb = fout (if c.p.hits x.task x.num x.att then c.p else FP.none) 1 c.b) ∧ (y4.heap[A]? = some (.cells #[.int .i64 0, .int .i64 0, .int .i64 0, .slice none 0 0, .slice none 0 0] 43 (0, 0))) ∧ (A < y4.heap.size) ∧ (y0.heap.size ≤ A))
          · intro Ta7
            apply share_a6 (C := fun y4 A B ta1 ta2 te1 te2 tb1 tb2 tf1 tf2 => (Below y0.heap.size y0 y4) ∧ (y0.heap.size ≤ y4.heap.size) ∧ (Txt.SameB [C] y0 y4) ∧ (Bytes [] y4 (.slice ta1 c.a.im.length ta2) c.a.im) ∧ (Bytes [] y4 (.slice te1 c.a.ef.length te2) c.a.ef) ∧ (Bytes [] y4 (.slice tb1 c.b.im.length tb2) c.b.im) ∧ (Bytes [] y4 (.slice tf1 c.b.ef.length tf2) c.b.ef) ∧ (y4.heap[A]? = some (.cells #[.int .i64 0, .int .i64 0, .int .i64 0, .slice none 0 0, .slice none 0 0] 43 (0, 0))) ∧ (A < y4.heap.size) ∧ (y0.heap.size ≤ A) ∧ (y4.heap[B]? = some (.cells #[.int .i64 0, .int .i64 0, .int .i64 0, .slice none 0 0, .slice none 0 0] 43 (0, 0))) ∧ (B < y4.heap.size) ∧ (y0.heap.size ≤ B) ∧ (A ≠ B))
            · intro Ta6
              apply share_a5 (C := fun y3 A B ta1 ta2 te1 te2 => (Below y0.heap.size y0 y3) ∧ (y0.heap.size ≤ y3.heap.size) ∧ (Txt.SameB [C] y0 y3) ∧ (Bytes [] y3 (.slice ta1 c.a.im.length ta2) c.a.im) ∧ (Bytes [] y3 (.slice te1 c.a.ef.length te2) c.a.ef) ∧ (y3.heap[A]? = some (.cells #[.int .i64 0, .int .i64 0, .int .i64 0, .slice none 0 0, .slice none 0 0] 43 (0, 0))) ∧ (A < y3.heap.size) ∧ (y0.heap.size ≤ A) ∧ (y3.heap[B]? = some (.cells #[.int .i64 0, .int .i64 0, .int .i64 0, .slice none 0 0, .slice none 0 0] 43 (0, 0))) ∧ (B < y3.heap.size) ∧ (y0.heap.size ≤ B) ∧ (A ≠ B))
              · intro Ta5
                apply share_a4 (C := fun y3 B ta1 ta2 te1 te2 tb1 tb2 tf1 tf2 => (Below y0.heap.size y0 y3) ∧ (y0.heap.size ≤ y3.heap.size) ∧ (Txt.SameB [C] y0 y3) ∧ (Bytes [] y3 (.slice ta1 c.a.im.length ta2) c.a.im) ∧ (Bytes [] y3 (.slice te1 c.a.ef.length te2) c.a.ef) ∧ (Bytes [] y3 (.slice tb1 c.b.im.length tb2) c.b.im) ∧ (Bytes [] y3 (.slice tf1 c.b.ef.length tf2) c.b.ef) ∧ (y3.heap[B]? = some (.cells #[.int .i64 0, .int .i64 0, .int .i64 0, .slice none 0 0, .slice none 0 0] 43 (0, 0))) ∧ (B < y3.heap.size) ∧ (y0.heap.size ≤ B))
                · intro Ta4
                  apply share_a3 (C := fun y3 A ta1 ta2 te1 te2 tb1 tb2 tf1 tf2 => (Below y0.heap.size y0 y3) ∧ (y0.heap.size ≤ y3.heap.size) ∧ (Txt.SameB [C] y0 y3) ∧ (Bytes [] y3 (.slice ta1 c.a.im.length ta2) c.a.im) ∧ (Bytes [] y3 (.slice te1 c.a.ef.length te2) c.a.ef) ∧ (Bytes [] y3 (.slice tb1 c.b.im.length tb2) c.b.im) ∧ (Bytes [] y3 (.slice tf1 c.b.ef.length tf2) c.b.ef) ∧ (y3.heap[A]? = some (.cells #[.int .i64 0, .int .i64 0, .int .i64 0, .slice none 0 0, .slice none 0 0] 43 (0, 0))) ∧ (A < y3.heap.size) ∧ (y0.heap.size ≤ A))
                  · intro Ta3
                    apply share_a2 (C := fun y2 A B => (Below y0.heap.size y0 y2) ∧ (y0.heap.size ≤ y2.heap.size) ∧ (Txt.SameB [C] y0 y2) ∧ (y2.heap[A]? = some (.cells #[.int .i64 0, .int .i64 0, .int .i64 0, .slice none 0 0, .slice none 0 0] 43 (0, 0))) ∧ (A < y2.heap.size) ∧ (y0.heap.size ≤ A) ∧ (y2.heap[B]? = some (.cells #[.int .i64 0, .int .i64 0, .int .i64 0, .slice none 0 0, .slice none 0 0] 43 (0, 0))) ∧ (B < y2.heap.size) ∧ (y0.heap.size ≤ B) ∧ (A ≠ B))
                    · intro Ta2
                      apply share_a1 (C := fun y2 B ta1 ta2 te1 te2 => (Below y0.heap.size y0 y2) ∧ (y0.heap.size ≤ y2.heap.size) ∧ (Txt.SameB [C] y0 y2) ∧ (Bytes [] y2 (.slice ta1 c.a.im.length ta2) c.a.im) ∧ (Bytes [] y2 (.slice te1 c.a.ef.length te2) c.a.ef) ∧ (y2.heap[B]? = some (.cells #[.int .i64 0, .int .i64 0, .int .i64 0, .slice none 0 0, .slice none 0 0] 43 (0, 0))) ∧ (B < y2.heap.size) ∧ (y0.heap.size ≤ B))
                      · intro Ta1
                        apply share_a0 (C := fun y2 A ta1 ta2 te1 te2 => (Below y0.heap.size y0 y2) ∧ (y0.heap.size ≤ y2.heap.size) ∧ (Txt.SameB [C] y0 y2) ∧ (Bytes [] y2 (.slice ta1 c.a.im.length ta2) c.a.im) ∧ (Bytes [] y2 (.slice te1 c.a.ef.length te2) c.a.ef) ∧ (y2.heap[A]? = some (.cells #[.int .i64 0, .int .i64 0, .int .i64 0, .slice none 0 0, .slice none 0 0] 43 (0, 0))) ∧ (A < y2.heap.size) ∧ (y0.heap.size ≤ A))
                        · intro Ta0
                          have hc0 := HC0.out
                          rw [HCC.out] at hc0
                          have c_0 : y0.cell? ⟨C, 0, none⟩ = some (.int .i64 c.op) := box_at hc0 rfl
                          have c_1 : y0.cell? ⟨C, 1, none⟩ = some (.int .i64 c.mode) := box_at hc0 rfl
                          have c_2 : y0.cell? ⟨C, 2, none⟩ = some (.int .i64 c.p.c) := box_at hc0 rfl
                          have c_3 : y0.cell? ⟨C, 3, none⟩ = some (.int .i64 c.p.n) := box_at hc0 rfl
                          have c_4 : y0.cell? ⟨C, 4, none⟩ = some (.int .i64 c.p.e) := box_at hc0 rfl
                          have c_5 : y0.cell? ⟨C, 5, none⟩ = some (.int .i64 c.p.k) := box_at hc0 rfl
                          have c_6 : y0.cell? ⟨C, 6, none⟩ = some (.int .i64 c.p.s) := box_at hc0 rfl
                          have c_7 : y0.cell? ⟨C, 7, none⟩ = some (.int .i64 c.p.pl) := box_at hc0 rfl
                          have c_8 : y0.cell? ⟨C, 8, none⟩ = some (.int .i64 c.p.m) := box_at hc0 rfl
                          have c_9 : y0.cell? ⟨C, 9, none⟩ = some (.int .i64 c.ms) := box_at hc0 rfl
                          have c_10 : y0.cell? ⟨C, 10, none⟩ = some (.int .i64 c.md) := box_at hc0 rfl
                          have c_11 : y0.cell? ⟨C, 11, none⟩ = some (.int .i64 c.mt) := box_at hc0 rfl
                          have c_12 : y0.cell? ⟨C, 12, none⟩ = some (.int .i64 c.mq) := box_at hc0 rfl
                          have c_13 : y0.cell? ⟨C, 13, none⟩ = some (.int .i64 c.m0) := box_at hc0 rfl
                          have c_14 : y0.cell? ⟨C, 14, none⟩ = some (.int .i64 c.m1) := box_at hc0 rfl
                          have c_15 : y0.cell? ⟨C, 15, none⟩ = some (.int .i64 c.m2) := box_at hc0 rfl
                          have c_16 : y0.cell? ⟨C, 16, none⟩ = some (.int .i64 c.m3) := box_at hc0 rfl
                          have c_17 : y0.cell? ⟨C, 17, none⟩ = some (.slice ma c.dl mc) := box_at hc0 rfl
                          have c_18 : y0.cell? ⟨C, 18, none⟩ = some (.int .i64 c.a.en) := box_at hc0 rfl
                          have c_19 : y0.cell? ⟨C, 19, none⟩ = some (.int .i64 c.a.st) := box_at hc0 rfl
                          have c_20 : y0.cell? ⟨C, 20, none⟩ = some (.int .i64 c.a.er) := box_at hc0 rfl
                          have c_21 : y0.cell? ⟨C, 21, none⟩ = some (.slice ai c.a.im.length ac) := box_at hc0 rfl
                          have c_22 : y0.cell? ⟨C, 22, none⟩ = some (.slice ae c.a.ef.length aec) := box_at hc0 rfl
                          have c_23 : y0.cell? ⟨C, 23, none⟩ = some (.int .i64 c.b.en) := box_at hc0 rfl
                          have c_24 : y0.cell? ⟨C, 24, none⟩ = some (.int .i64 c.b.st) := box_at hc0 rfl
                          have c_25 : y0.cell? ⟨C, 25, none⟩ = some (.int .i64 c.b.er) := box_at hc0 rfl
                          have c_26 : y0.cell? ⟨C, 26, none⟩ = some (.slice bi c.b.im.length bc) := box_at hc0 rfl
                          have c_27 : y0.cell? ⟨C, 27, none⟩ = some (.slice be c.b.ef.length bec) := box_at hc0 rfl
                          have c_28 : y0.cell? ⟨C, 28, none⟩ = some (.bool c.pm) := box_at hc0 rfl
                          clear hc0
                          (try simp only [Txt.pick, List.getElem?_cons_succ, List.getElem?_cons_zero])
                          go_wp2
                          refine Txt.RunPost.mk ?_
                          clear c_0 c_1 c_2 c_3 c_4 c_5 c_6 c_7 c_8 c_9 c_10 c_11 c_12 c_13 c_14 c_15 c_16 c_17 c_18 c_19 c_20 c_21 c_22 c_23 c_24 c_25 c_26 c_27 c_28
                          refine Txt.Ty.wpTr_alt ?_ (Txt.Ty.wpTr_alt ?_ (Txt.Ty.wpTr_alt ?_ Txt.Ty.wpTr_no))
                          · (try simp only [Txt.pick, List.getElem?_cons_succ, List.getElem?_cons_zero])
                            go_wp2_with fail
                            refine (to_any [] c.a _ _ _ (by omega) (by omega) (Raw.below HRa.out HD0.out) (Raw.below HRe.out HD0.out)).mono ?_
                            rintro e y1 ⟨ta, te, rfl, o1, o2, hb⟩
                            obtain ⟨ta1, ta2, rfl⟩ := own_slice o1
                            obtain ⟨te1, te2, rfl⟩ := own_slice o2
                            have HIa1 := Lib.hid (Bytes.row (F := []) o1 rfl (fun f hf => by cases hf))
                            have HEa1 := Lib.hid (Bytes.row (F := []) o2 rfl (fun f hf => by cases hf))
                            clear o1 o2
                            have hzz := hb.size
                            have HD1 := Lib.hid (HD0.out.trans (hb.mono hz0))
                            have hz1 : y0.heap.size ≤ y1.heap.size := HD1.out.size
                            have HS1 := Lib.hid (same_below' HS0.out hb)
                            clear hzz hb
                            go_wp2
                            refine Txt.SegPost.mk (Txt.Ty.Shown.same HS1.out) ?_
                            (try simp only [Txt.pick, List.getElem?_cons_succ, List.getElem?_cons_zero])
                            go_wp2
                            refine Txt.RunPost.mk ?_
                            refine Txt.Ty.wpTr_alt ?_ (Txt.Ty.wpTr_alt ?_ (Txt.Ty.wpTr_alt ?_ Txt.Ty.wpTr_no))
                            · (try simp only [Txt.pick, List.getElem?_cons_succ, List.getElem?_cons_zero])
                              go_wp2_with fail
                              refine (to_any [] c.b _ _ _ (by omega) (by omega) (Raw.below HRb.out HD1.out) (Raw.below HRf.out HD1.out)).mono ?_
                              rintro e y2 ⟨tb, tf, rfl, o1, o2, hb⟩
                              obtain ⟨tb1, tb2, rfl⟩ := own_slice o1
                              obtain ⟨tf1, tf2, rfl⟩ := own_slice o2
                              have HIb2 := Lib.hid (Bytes.row (F := []) o1 rfl (fun f hf => by cases hf))
                              have HEb2 := Lib.hid (Bytes.row (F := []) o2 rfl (fun f hf => by cases hf))
                              clear o1 o2
                              have hzz := hb.size
                              have HD2 := Lib.hid (HD1.out.trans (hb.mono hz1))
                              have hz2 : y0.heap.size ≤ y2.heap.size := HD2.out.size
                              have HIa2 := Lib.hid (Raw.below HIa1.out hb)
                              have HEa2 := Lib.hid (Raw.below HEa1.out hb)
                              have HS2 := Lib.hid (same_below' HS1.out hb)
                              clear hzz hb
                              go_wp2
                              refine Txt.SegPost.mk (Txt.Ty.Shown.same HS2.out) ?_
                              (try simp only [Txt.pick, List.getElem?_cons_succ, List.getElem?_cons_zero])
                              go_wp2
                              refine Txt.RunPost.mk ?_
                              refine Txt.Ty.wpTr_alt ?_ (Txt.Ty.wpTr_alt ?_ (Txt.Ty.wpTr_alt ?_ Txt.Ty.wpTr_no))
                              · (try simp only [Txt.pick, List.getElem?_cons_succ, List.getElem?_cons_zero])
                                go_wp2_with fail
                                refine (ull_outcomes2 (HU0.out.below HD2.out) c.p c.a c.b _ _ _ _ (by omega) (by omega) (by omega) (by omega) HIa2.out HEa2.out HIb2.out HEb2.out).mono ?_
                                rintro e y3 ⟨fa, fb, ja, je, jb, jf, hfa, hfb, rfl, o1, o2, o3, o4, hb⟩
                                obtain ⟨ja1, ja2, rfl⟩ := own_slice o1
                                obtain ⟨je1, je2, rfl⟩ := own_slice o2
                                obtain ⟨jb1, jb2, rfl⟩ := own_slice o3
                                obtain ⟨jf1, jf2, rfl⟩ := own_slice o4
                                have HFA := Lib.hid hfa; have HFB := Lib.hid hfb
                                have HO13 := Lib.hid (own_base o1 hz2)
                                have HO23 := Lib.hid (own_base o2 hz2)
                                have HO33 := Lib.hid (own_base o3 hz2)
                                have HO43 := Lib.hid (own_base o4 hz2)
                                clear hfa hfb o1 o2 o3 o4
                                have hzz := hb.size
                                have HD3 := Lib.hid (HD2.out.trans (hb.mono hz2))
                                have hz3 : y0.heap.size ≤ y3.heap.size := HD3.out.size
                                have HS3 := Lib.hid (same_below' HS2.out hb)
                                clear hzz hb
                                go_wp2
                                refine Txt.SegPost.mk (Txt.Ty.Shown.same HS3.out) ?_
                                (try simp only [Txt.pick, List.getElem?_cons_succ, List.getElem?_cons_zero])
                                go_wp2
                                refine Txt.RunPost.mk ?_
                                refine Txt.Ty.wpTr_alt ?_ (Txt.Ty.wpTr_alt ?_ Txt.Ty.wpTr_no)
                                · (try simp only [Txt.pick, List.getElem?_cons_succ, List.getElem?_cons_zero])
                                  go_wp2
                                  obtain ⟨A, hA⟩ : ∃ A, A = y3.heap.size := ⟨_, rfl⟩
                                  obtain ⟨y4, hw⟩ : ∃ X, X = y3.alloc (.cells #[.int .i64 0, .int .i64 0, .int .i64 0, .slice none 0 0, .slice none 0 0] 43) := ⟨_, rfl⟩
                                  rw [← hw, ← hA]
                                  have hb : Below y3.heap.size y3 y4 := by rw [hw]; exact (Below.refl _ _).alloc (Nat.le_refl _) _
                                  have HA4 : Hid (y4.heap[A]? = some (.cells #[.int .i64 0, .int .i64 0, .int .i64 0, .slice none 0 0, .slice none 0 0] 43 (0, 0))) := Lib.hid (by rw [hw, hA]; exact heap_alloc_new _ _)
                                  have hAl4 : A < y4.heap.size := (Array.getElem?_eq_some_iff.1 HA4.out).1
                                  have hAg : y0.heap.size ≤ A := by omega
                                  clear hw hA
                                  have hzz := hb.size
                                  have HD4 := Lib.hid (HD3.out.trans (hb.mono hz3))
                                  have hz4 : y0.heap.size ≤ y4.heap.size := HD4.out.size
                                  have HO14 := Lib.hid (own_below HO13.out hb (Nat.le_refl _))
                                  have HO24 := Lib.hid (own_below HO23.out hb (Nat.le_refl _))
                                  have HO34 := Lib.hid (own_below HO33.out hb (Nat.le_refl _))
                                  have HO44 := Lib.hid (own_below HO43.out hb (Nat.le_refl _))
                                  have HS4 := Lib.hid (same_below' HS3.out hb)
                                  clear hzz hb
                                  refine Txt.SegPost.mk (Txt.Ty.Shown.same HS4.out) ?_
                                  (try simp only [Txt.pick, List.getElem?_cons_succ, List.getElem?_cons_zero])
                                  go_wp2
                                  refine Txt.RunPost.mk ?_
                                  exact Ta7.out y4 A ta1 ta2 te1 te2 tb1 tb2 tf1 tf2 fa fb ja1 ja2 je1 je2 jb1 jb2 jf1 jf2 ⟨HD4.out, hz4, HS4.out, HO14.out, HO24.out, HO34.out, HO44.out, HFA.out, HFB.out, HA4.out, hAl4, hAg⟩
                                · (try simp only [Txt.pick, List.getElem?_cons_succ, List.getElem?_cons_zero])
                                  go_wp2
                                  obtain ⟨B, hB⟩ : ∃ A, A = y3.heap.size := ⟨_, rfl⟩
                                  obtain ⟨y4, hw⟩ : ∃ X, X = y3.alloc (.cells #[.int .i64 0, .int .i64 0, .int .i64 0, .slice none 0 0, .slice none 0 0] 43) := ⟨_, rfl⟩
                                  rw [← hw, ← hB]
                                  have hb : Below y3.heap.size y3 y4 := by rw [hw]; exact (Below.refl _ _).alloc (Nat.le_refl _) _
                                  have HB4 : Hid (y4.heap[B]? = some (.cells #[.int .i64 0, .int .i64 0, .int .i64 0, .slice none 0 0, .slice none 0 0] 43 (0, 0))) := Lib.hid (by rw [hw, hB]; exact heap_alloc_new _ _)
                                  have hBl4 : B < y4.heap.size := (Array.getElem?_eq_some_iff.1 HB4.out).1
                                  have hBg : y0.heap.size ≤ B := by omega
                                  clear hw hB
                                  have hzz := hb.size
                                  have HD4 := Lib.hid (HD3.out.trans (hb.mono hz3))
                                  have hz4 : y0.heap.size ≤ y4.heap.size := HD4.out.size
                                  have HO14 := Lib.hid (own_below HO13.out hb (Nat.le_refl _))
                                  have HO24 := Lib.hid (own_below HO23.out hb (Nat.le_refl _))
                                  have HO34 := Lib.hid (own_below HO33.out hb (Nat.le_refl _))
                                  have HO44 := Lib.hid (own_below HO43.out hb (Nat.le_refl _))
                                  have HS4 := Lib.hid (same_below' HS3.out hb)
                                  clear hzz hb
                                  refine Txt.SegPost.mk (Txt.Ty.Shown.same HS4.out) ?_
                                  (try simp only [Txt.pick, List.getElem?_cons_succ, List.getElem?_cons_zero])
                                  go_wp2
                                  refine Txt.RunPost.mk ?_
                                  exact Ta8.out y4 B ta1 ta2 te1 te2 tb1 tb2 tf1 tf2 fa fb ja1 ja2 je1 je2 jb1 jb2 jf1 jf2 ⟨HD4.out, hz4, HS4.out, HO14.out, HO24.out, HO34.out, HO44.out, HFA.out, HFB.out, HB4.out, hBl4, hBg⟩
                              · (try simp only [Txt.pick, List.getElem?_cons_succ, List.getElem?_cons_zero])
                                go_wp2
                                obtain ⟨A, hA⟩ : ∃ A, A = y2.heap.size := ⟨_, rfl⟩
                                obtain ⟨y3, hw⟩ : ∃ X, X = y2.alloc (.cells #[.int .i64 0, .int .i64 0, .int .i64 0, .slice none 0 0, .slice none 0 0] 43) := ⟨_, rfl⟩
                                rw [← hw, ← hA]
                                have hb : Below y2.heap.size y2 y3 := by rw [hw]; exact (Below.refl _ _).alloc (Nat.le_refl _) _
                                have HA3 : Hid (y3.heap[A]? = some (.cells #[.int .i64 0, .int .i64 0, .int .i64 0, .slice none 0 0, .slice none 0 0] 43 (0, 0))) := Lib.hid (by rw [hw, hA]; exact heap_alloc_new _ _)
                                have hAl3 : A < y3.heap.size := (Array.getElem?_eq_some_iff.1 HA3.out).1
                                have hAg : y0.heap.size ≤ A := by omega
                                clear hw hA
                                have hzz := hb.size
                                have HD3 := Lib.hid (HD2.out.trans (hb.mono hz2))
                                have hz3 : y0.heap.size ≤ y3.heap.size := HD3.out.size
                                have HIa3 := Lib.hid (Raw.below HIa2.out hb)
                                have HEa3 := Lib.hid (Raw.below HEa2.out hb)
                                have HIb3 := Lib.hid (Raw.below HIb2.out hb)
                                have HEb3 := Lib.hid (Raw.below HEb2.out hb)
                                have HS3 := Lib.hid (same_below' HS2.out hb)
                                clear hzz hb
                                refine Txt.SegPost.mk (Txt.Ty.Shown.same HS3.out) ?_
                                (try simp only [Txt.pick, List.getElem?_cons_succ, List.getElem?_cons_zero])
                                go_wp2
                                refine Txt.RunPost.mk ?_
                                exact Ta3.out y3 A ta1 ta2 te1 te2 tb1 tb2 tf1 tf2 ⟨HD3.out, hz3, HS3.out, HIa3.out, HEa3.out, HIb3.out, HEb3.out, HA3.out, hAl3, hAg⟩
                              · (try simp only [Txt.pick, List.getElem?_cons_succ, List.getElem?_cons_zero])
                                go_wp2
                                obtain ⟨B, hB⟩ : ∃ A, A = y2.heap.size := ⟨_, rfl⟩
                                obtain ⟨y3, hw⟩ : ∃ X, X = y2.alloc (.cells #[.int .i64 0, .int .i64 0, .int .i64 0, .slice none 0 0, .slice none 0 0] 43) := ⟨_, rfl⟩
                                rw [← hw, ← hB]
                                have hb : Below y2.heap.size y2 y3 := by rw [hw]; exact (Below.refl _ _).alloc (Nat.le_refl _) _
                                have HB3 : Hid (y3.heap[B]? = some (.cells #[.int .i64 0, .int .i64 0, .int .i64 0, .slice none 0 0, .slice none 0 0] 43 (0, 0))) := Lib.hid (by rw [hw, hB]; exact heap_alloc_new _ _)
                                have hBl3 : B < y3.heap.size := (Array.getElem?_eq_some_iff.1 HB3.out).1
                                have hBg : y0.heap.size ≤ B := by omega
                                clear hw hB
                                have hzz := hb.size
                                have HD3 := Lib.hid (HD2.out.trans (hb.mono hz2))
                                have hz3 : y0.heap.size ≤ y3.heap.size := HD3.out.size
                                have HIa3 := Lib.hid (Raw.below HIa2.out hb)
                                have HEa3 := Lib.hid (Raw.below HEa2.out hb)
                                have HIb3 := Lib.hid (Raw.below HIb2.out hb)
                                have HEb3 := Lib.hid (Raw.below HEb2.out hb)
                                have HS3 := Lib.hid (same_below' HS2.out hb)
                                clear hzz hb
                                refine Txt.SegPost.mk (Txt.Ty.Shown.same HS3.out) ?_
                                (try simp only [Txt.pick, List.getElem?_cons_succ, List.getElem?_cons_zero])
                                go_wp2
                                refine Txt.RunPost.mk ?_
                                exact Ta4.out y3 B ta1 ta2 te1 te2 tb1 tb2 tf1 tf2 ⟨HD3.out, hz3, HS3.out, HIa3.out, HEa3.out, HIb3.out, HEb3.out, HB3.out, hBl3, hBg⟩
                            · (try simp only [Txt.pick, List.getElem?_cons_succ, List.getElem?_cons_zero])
                              go_wp2
                              obtain ⟨A, hA⟩ : ∃ A, A = y1.heap.size := ⟨_, rfl⟩
                              obtain ⟨y2, hw⟩ : ∃ X, X = y1.alloc (.cells #[.int .i64 0, .int .i64 0, .int .i64 0, .slice none 0 0, .slice none 0 0] 43) := ⟨_, rfl⟩
                              rw [← hw, ← hA]
                              have hb : Below y1.heap.size y1 y2 := by rw [hw]; exact (Below.refl _ _).alloc (Nat.le_refl _) _
                              have HA2 : Hid (y2.heap[A]? = some (.cells #[.int .i64 0, .int .i64 0, .int .i64 0, .slice none 0 0, .slice none 0 0] 43 (0, 0))) := Lib.hid (by rw [hw, hA]; exact heap_alloc_new _ _)
                              have hAl2 : A < y2.heap.size := (Array.getElem?_eq_some_iff.1 HA2.out).1
                              have hAg : y0.heap.size ≤ A := by omega
                              clear hw hA
                              have hzz := hb.size
                              have HD2 := Lib.hid (HD1.out.trans (hb.mono hz1))
                              have hz2 : y0.heap.size ≤ y2.heap.size := HD2.out.size
                              have HIa2 := Lib.hid (Raw.below HIa1.out hb)
                              have HEa2 := Lib.hid (Raw.below HEa1.out hb)
                              have HS2 := Lib.hid (same_below' HS1.out hb)
                              clear hzz hb
                              refine Txt.SegPost.mk (Txt.Ty.Shown.same HS2.out) ?_
                              (try simp only [Txt.pick, List.getElem?_cons_succ, List.getElem?_cons_zero])
                              go_wp2
                              refine Txt.RunPost.mk ?_
                              exact Ta0.out y2 A ta1 ta2 te1 te2 ⟨HD2.out, hz2, HS2.out, HIa2.out, HEa2.out, HA2.out, hAl2, hAg⟩
                            · (try simp only [Txt.pick, List.getElem?_cons_succ, List.getElem?_cons_zero])
                              go_wp2
                              obtain ⟨B, hB⟩ : ∃ A, A = y1.heap.size := ⟨_, rfl⟩
                              obtain ⟨y2, hw⟩ : ∃ X, X = y1.alloc (.cells #[.int .i64 0, .int .i64 0, .int .i64 0, .slice none 0 0, .slice none 0 0] 43) := ⟨_, rfl⟩
                              rw [← hw, ← hB]
                              have hb : Below y1.heap.size y1 y2 := by rw [hw]; exact (Below.refl _ _).alloc (Nat.le_refl _) _
                              have HB2 : Hid (y2.heap[B]? = some (.cells #[.int .i64 0, .int .i64 0, .int .i64 0, .slice none 0 0, .slice none 0 0] 43 (0, 0))) := Lib.hid (by rw [hw, hB]; exact heap_alloc_new _ _)
                              have hBl2 : B < y2.heap.size := (Array.getElem?_eq_some_iff.1 HB2.out).1
                              have hBg : y0.heap.size ≤ B := by omega
                              clear hw hB
                              have hzz := hb.size
                              have HD2 := Lib.hid (HD1.out.trans (hb.mono hz1))
                              have hz2 : y0.heap.size ≤ y2.heap.size := HD2.out.size
                              have HIa2 := Lib.hid (Raw.below HIa1.out hb)
                              have HEa2 := Lib.hid (Raw.below HEa1.out hb)
                              have HS2 := Lib.hid (same_below' HS1.out hb)
                              clear hzz hb
                              refine Txt.SegPost.mk (Txt.Ty.Shown.same HS2.out) ?_
                              (try simp only [Txt.pick, List.getElem?_cons_succ, List.getElem?_cons_zero])
                              go_wp2
                              refine Txt.RunPost.mk ?_
                              exact Ta1.out y2 B ta1 ta2 te1 te2 ⟨HD2.out, hz2, HS2.out, HIa2.out, HEa2.out, HB2.out, hBl2, hBg⟩
                          · (try simp only [Txt.pick, List.getElem?_cons_succ, List.getElem?_cons_zero])
                            go_wp2
                            obtain ⟨A, hA⟩ : ∃ A, A = y0.heap.size := ⟨_, rfl⟩
                            obtain ⟨y1, hw⟩ : ∃ X, X = y0.alloc (.cells #[.int .i64 0, .int .i64 0, .int .i64 0, .slice none 0 0, .slice none 0 0] 43) := ⟨_, rfl⟩
                            rw [← hw, ← hA]
                            have hb : Below y0.heap.size y0 y1 := by rw [hw]; exact (Below.refl _ _).alloc (Nat.le_refl _) _
                            have HA1 : Hid (y1.heap[A]? = some (.cells #[.int .i64 0, .int .i64 0, .int .i64 0, .slice none 0 0, .slice none 0 0] 43 (0, 0))) := Lib.hid (by rw [hw, hA]; exact heap_alloc_new _ _)
                            have hAl1 : A < y1.heap.size := (Array.getElem?_eq_some_iff.1 HA1.out).1
                            have hAg : y0.heap.size ≤ A := by omega
                            clear hw hA
                            have hzz := hb.size
                            have HD1 := Lib.hid (HD0.out.trans (hb.mono hz0))
                            have hz1 : y0.heap.size ≤ y1.heap.size := HD1.out.size
                            have HS1 := Lib.hid (same_below' HS0.out hb)
                            clear hzz hb
                            refine Txt.SegPost.mk (Txt.Ty.Shown.same HS1.out) ?_
                            (try simp only [Txt.pick, List.getElem?_cons_succ, List.getElem?_cons_zero])
                            go_wp2
                            refine Txt.RunPost.mk ?_
                            refine Txt.Ty.wpTr_alt ?_ (Txt.Ty.wpTr_alt ?_ Txt.Ty.wpTr_no)
                            · (try simp only [Txt.pick, List.getElem?_cons_succ, List.getElem?_cons_zero])
                              go_wp2_with fail
                              refine (to_any [] c.a _ _ _ (by omega) (by omega) (Raw.below HRa.out HD1.out) (Raw.below HRe.out HD1.out)).mono ?_
                              rintro e y2 ⟨ta, te, rfl, o1, o2, hb⟩
                              obtain ⟨ta1, ta2, rfl⟩ := own_slice o1
                              obtain ⟨te1, te2, rfl⟩ := own_slice o2
                              have HIa2 := Lib.hid (Bytes.row (F := []) o1 rfl (fun f hf => by cases hf))
                              have HEa2 := Lib.hid (Bytes.row (F := []) o2 rfl (fun f hf => by cases hf))
                              clear o1 o2
                              have hzz := hb.size
                              have HD2 := Lib.hid (HD1.out.trans (hb.mono hz1))
                              have hz2 : y0.heap.size ≤ y2.heap.size := HD2.out.size
                              have HA2 := Lib.hid ((hb.block A hAl1).trans HA1.out)
                              have hAl2 : A < y2.heap.size := by omega
                              have HS2 := Lib.hid (same_below' HS1.out hb)
                              clear hzz hb
                              go_wp2
                              refine Txt.SegPost.mk (Txt.Ty.Shown.same HS2.out) ?_
                              (try simp only [Txt.pick, List.getElem?_cons_succ, List.getElem?_cons_zero])
                              go_wp2
                              refine Txt.RunPost.mk ?_
                              exact Ta0.out y2 A ta1 ta2 te1 te2 ⟨HD2.out, hz2, HS2.out, HIa2.out, HEa2.out, HA2.out, hAl2, hAg⟩
                            · (try simp only [Txt.pick, List.getElem?_cons_succ, List.getElem?_cons_zero])
                              go_wp2
                              obtain ⟨B, hB⟩ : ∃ A, A = y1.heap.size := ⟨_, rfl⟩
                              obtain ⟨y2, hw⟩ : ∃ X, X = y1.alloc (.cells #[.int .i64 0, .int .i64 0, .int .i64 0, .slice none 0 0, .slice none 0 0] 43) := ⟨_, rfl⟩
                              rw [← hw, ← hB]
                              have hb : Below y1.heap.size y1 y2 := by rw [hw]; exact (Below.refl _ _).alloc (Nat.le_refl _) _
                              have HB2 : Hid (y2.heap[B]? = some (.cells #[.int .i64 0, .int .i64 0, .int .i64 0, .slice none 0 0, .slice none 0 0] 43 (0, 0))) := Lib.hid (by rw [hw, hB]; exact heap_alloc_new _ _)
                              have hBl2 : B < y2.heap.size := (Array.getElem?_eq_some_iff.1 HB2.out).1
                              have hBg : y0.heap.size ≤ B := by omega
                              have hAB : A ≠ B := by omega
                              clear hw hB
                              have hzz := hb.size
                              have HD2 := Lib.hid (HD1.out.trans (hb.mono hz1))
                              have hz2 : y0.heap.size ≤ y2.heap.size := HD2.out.size
                              have HA2 := Lib.hid ((hb.block A hAl1).trans HA1.out)
                              have hAl2 : A < y2.heap.size := by omega
                              have HS2 := Lib.hid (same_below' HS1.out hb)
                              clear hzz hb
                              refine Txt.SegPost.mk (Txt.Ty.Shown.same HS2.out) ?_
                              (try simp only [Txt.pick, List.getElem?_cons_succ, List.getElem?_cons_zero])
                              go_wp2
                              refine Txt.RunPost.mk ?_
                              exact Ta2.out y2 A B ⟨HD2.out, hz2, HS2.out, HA2.out, hAl2, hAg, HB2.out, hBl2, hBg, hAB⟩
                          · (try simp only [Txt.pick, List.getElem?_cons_succ, List.getElem?_cons_zero])
                            go_wp2
                            obtain ⟨B, hB⟩ : ∃ A, A = y0.heap.size := ⟨_, rfl⟩
                            obtain ⟨y1, hw⟩ : ∃ X, X = y0.alloc (.cells #[.int .i64 0, .int .i64 0, .int .i64 0, .slice none 0 0, .slice none 0 0] 43) := ⟨_, rfl⟩
                            rw [← hw, ← hB]
                            have hb : Below y0.heap.size y0 y1 := by rw [hw]; exact (Below.refl _ _).alloc (Nat.le_refl _) _
                            have HB1 : Hid (y1.heap[B]? = some (.cells #[.int .i64 0, .int .i64 0, .int .i64 0, .slice none 0 0, .slice none 0 0] 43 (0, 0))) := Lib.hid (by rw [hw, hB]; exact heap_alloc_new _ _)
                            have hBl1 : B < y1.heap.size := (Array.getElem?_eq_some_iff.1 HB1.out).1
                            have hBg : y0.heap.size ≤ B := by omega
                            clear hw hB
                            have hzz := hb.size
                            have HD1 := Lib.hid (HD0.out.trans (hb.mono hz0))
                            have hz1 : y0.heap.size ≤ y1.heap.size := HD1.out.size
                            have HS1 := Lib.hid (same_below' HS0.out hb)
                            clear hzz hb
                            refine Txt.SegPost.mk (Txt.Ty.Shown.same HS1.out) ?_
                            (try simp only [Txt.pick, List.getElem?_cons_succ, List.getElem?_cons_zero])
                            go_wp2
                            refine Txt.RunPost.mk ?_
                            refine Txt.Ty.wpTr_alt ?_ (Txt.Ty.wpTr_alt ?_ Txt.Ty.wpTr_no)
                            · (try simp only [Txt.pick, List.getElem?_cons_succ, List.getElem?_cons_zero])
                              go_wp2_with fail
                              refine (to_any [] c.a _ _ _ (by omega) (by omega) (Raw.below HRa.out HD1.out) (Raw.below HRe.out HD1.out)).mono ?_
                              rintro e y2 ⟨ta, te, rfl, o1, o2, hb⟩
                              obtain ⟨ta1, ta2, rfl⟩ := own_slice o1
                              obtain ⟨te1, te2, rfl⟩ := own_slice o2
                              have HIa2 := Lib.hid (Bytes.row (F := []) o1 rfl (fun f hf => by cases hf))
                              have HEa2 := Lib.hid (Bytes.row (F := []) o2 rfl (fun f hf => by cases hf))
                              clear o1 o2
                              have hzz := hb.size
                              have HD2 := Lib.hid (HD1.out.trans (hb.mono hz1))
                              have hz2 : y0.heap.size ≤ y2.heap.size := HD2.out.size
                              have HB2 := Lib.hid ((hb.block B hBl1).trans HB1.out)
                              have hBl2 : B < y2.heap.size := by omega
                              have HS2 := Lib.hid (same_below' HS1.out hb)
                              clear hzz hb
                              go_wp2
                              refine Txt.SegPost.mk (Txt.Ty.Shown.same HS2.out) ?_
                              (try simp only [Txt.pick, List.getElem?_cons_succ, List.getElem?_cons_zero])
                              go_wp2
                              refine Txt.RunPost.mk ?_
                              exact Ta1.out y2 B ta1 ta2 te1 te2 ⟨HD2.out, hz2, HS2.out, HIa2.out, HEa2.out, HB2.out, hBl2, hBg⟩
                            · (try simp only [Txt.pick, List.getElem?_cons_succ, List.getElem?_cons_zero])
                              go_wp2
                              obtain ⟨A, hA⟩ : ∃ A, A = y1.heap.size := ⟨_, rfl⟩
                              obtain ⟨y2, hw⟩ : ∃ X, X = y1.alloc (.cells #[.int .i64 0, .int .i64 0, .int .i64 0, .slice none 0 0, .slice none 0 0] 43) := ⟨_, rfl⟩
                              rw [← hw, ← hA]
                              have hb : Below y1.heap.size y1 y2 := by rw [hw]; exact (Below.refl _ _).alloc (Nat.le_refl _) _
                              have HA2 : Hid (y2.heap[A]? = some (.cells #[.int .i64 0, .int .i64 0, .int .i64 0, .slice none 0 0, .slice none 0 0] 43 (0, 0))) := Lib.hid (by rw [hw, hA]; exact heap_alloc_new _ _)
                              have hAl2 : A < y2.heap.size := (Array.getElem?_eq_some_iff.1 HA2.out).1
                              have hAg : y0.heap.size ≤ A := by omega
                              have hAB : A ≠ B := by omega
                              clear hw hA
                              have hzz := hb.size
                              have HD2 := Lib.hid (HD1.out.trans (hb.mono hz1))
                              have hz2 : y0.heap.size ≤ y2.heap.size := HD2.out.size
                              have HB2 := Lib.hid ((hb.block B hBl1).trans HB1.out)
                              have hBl2 : B < y2.heap.size := by omega
                              have HS2 := Lib.hid (same_below' HS1.out hb)
                              clear hzz hb
                              refine Txt.SegPost.mk (Txt.Ty.Shown.same HS2.out) ?_
                              (try simp only [Txt.pick, List.getElem?_cons_succ, List.getElem?_cons_zero])
                              go_wp2
                              refine Txt.RunPost.mk ?_
                              exact Ta2.out y2 A B ⟨HD2.out, hz2, HS2.out, HA2.out, hAl2, hAg, HB2.out, hBl2, hBg, hAB⟩
                        · rintro y2 A ta1 ta2 te1 te2 ⟨qHD2, hz2, qHS2, qHIa2, qHEa2, qHA2, hAl2, hAg⟩
                          have HD2 := Lib.hid qHD2
                          have HS2 := Lib.hid qHS2
                          have HIa2 := Lib.hid qHIa2
                          have HEa2 := Lib.hid qHEa2
                          have HA2 := Lib.hid qHA2
                          clear qHD2 qHS2 qHIa2 qHEa2 qHA2
                          refine Txt.Ty.wpTr_alt ?_ (Txt.Ty.wpTr_alt ?_ Txt.Ty.wpTr_no)
                          · (try simp only [Txt.pick, List.getElem?_cons_succ, List.getElem?_cons_zero])
                            go_wp2_with fail
                            refine (to_any [] c.b _ _ _ (by omega) (by omega) (Raw.below HRb.out HD2.out) (Raw.below HRf.out HD2.out)).mono ?_
                            rintro e y3 ⟨tb, tf, rfl, o1, o2, hb⟩
                            obtain ⟨tb1, tb2, rfl⟩ := own_slice o1
                            obtain ⟨tf1, tf2, rfl⟩ := own_slice o2
                            have HIb3 := Lib.hid (Bytes.row (F := []) o1 rfl (fun f hf => by cases hf))
                            have HEb3 := Lib.hid (Bytes.row (F := []) o2 rfl (fun f hf => by cases hf))
                            clear o1 o2
                            have hzz := hb.size
                            have HD3 := Lib.hid (HD2.out.trans (hb.mono hz2))
                            have hz3 : y0.heap.size ≤ y3.heap.size := HD3.out.size
                            have HIa3 := Lib.hid (Raw.below HIa2.out hb)
                            have HEa3 := Lib.hid (Raw.below HEa2.out hb)
                            have HA3 := Lib.hid ((hb.block A hAl2).trans HA2.out)
                            have hAl3 : A < y3.heap.size := by omega
                            have HS3 := Lib.hid (same_below' HS2.out hb)
                            clear hzz hb
                            go_wp2
                            refine Txt.SegPost.mk (Txt.Ty.Shown.same HS3.out) ?_
                            (try simp only [Txt.pick, List.getElem?_cons_succ, List.getElem?_cons_zero])
                            go_wp2
                            refine Txt.RunPost.mk ?_
                            exact Ta3.out y3 A ta1 ta2 te1 te2 tb1 tb2 tf1 tf2 ⟨HD3.out, hz3, HS3.out, HIa3.out, HEa3.out, HIb3.out, HEb3.out, HA3.out, hAl3, hAg⟩
                          · (try simp only [Txt.pick, List.getElem?_cons_succ, List.getElem?_cons_zero])
                            go_wp2
                            obtain ⟨B, hB⟩ : ∃ A, A = y2.heap.size := ⟨_, rfl⟩
                            obtain ⟨y3, hw⟩ : ∃ X, X = y2.alloc (.cells #[.int .i64 0, .int .i64 0, .int .i64 0, .slice none 0 0, .slice none 0 0] 43) := ⟨_, rfl⟩
                            rw [← hw, ← hB]
                            have hb : Below y2.heap.size y2 y3 := by rw [hw]; exact (Below.refl _ _).alloc (Nat.le_refl _) _
                            have HB3 : Hid (y3.heap[B]? = some (.cells #[.int .i64 0, .int .i64 0, .int .i64 0, .slice none 0 0, .slice none 0 0] 43 (0, 0))) := Lib.hid (by rw [hw, hB]; exact heap_alloc_new _ _)
                            have hBl3 : B < y3.heap.size := (Array.getElem?_eq_some_iff.1 HB3.out).1
                            have hBg : y0.heap.size ≤ B := by omega
                            have hAB : A ≠ B := by omega
                            clear hw hB
                            have hzz := hb.size
                            have HD3 := Lib.hid (HD2.out.trans (hb.mono hz2))
                            have hz3 : y0.heap.size ≤ y3.heap.size := HD3.out.size
                            have HIa3 := Lib.hid (Raw.below HIa2.out hb)
                            have HEa3 := Lib.hid (Raw.below HEa2.out hb)
                            have HA3 := Lib.hid ((hb.block A hAl2).trans HA2.out)
                            have hAl3 : A < y3.heap.size := by omega
                            have HS3 := Lib.hid (same_below' HS2.out hb)
                            clear hzz hb
                            refine Txt.SegPost.mk (Txt.Ty.Shown.same HS3.out) ?_
                            (try simp only [Txt.pick, List.getElem?_cons_succ, List.getElem?_cons_zero])
                            go_wp2
                            refine Txt.RunPost.mk ?_
                            exact Ta5.out y3 A B ta1 ta2 te1 te2 ⟨HD3.out, hz3, HS3.out, HIa3.out, HEa3.out, HA3.out, hAl3, hAg, HB3.out, hBl3, hBg, hAB⟩
                      · rintro y2 B ta1 ta2 te1 te2 ⟨qHD2, hz2, qHS2, qHIa2, qHEa2, qHB2, hBl2, hBg⟩
                        have HD2 := Lib.hid qHD2
                        have HS2 := Lib.hid qHS2
                        have HIa2 := Lib.hid qHIa2
                        have HEa2 := Lib.hid qHEa2
                        have HB2 := Lib.hid qHB2
                        clear qHD2 qHS2 qHIa2 qHEa2 qHB2
                        refine Txt.Ty.wpTr_alt ?_ (Txt.Ty.wpTr_alt ?_ Txt.Ty.wpTr_no)
                        · (try simp only [Txt.pick, List.getElem?_cons_succ, List.getElem?_cons_zero])
                          go_wp2_with fail
                          refine (to_any [] c.b _ _ _ (by omega) (by omega) (Raw.below HRb.out HD2.out) (Raw.below HRf.out HD2.out)).mono ?_
                          rintro e y3 ⟨tb, tf, rfl, o1, o2, hb⟩
                          obtain ⟨tb1, tb2, rfl⟩ := own_slice o1
                          obtain ⟨tf1, tf2, rfl⟩ := own_slice o2
                          have HIb3 := Lib.hid (Bytes.row (F := []) o1 rfl (fun f hf => by cases hf))
                          have HEb3 := Lib.hid (Bytes.row (F := []) o2 rfl (fun f hf => by cases hf))
                          clear o1 o2
                          have hzz := hb.size
                          have HD3 := Lib.hid (HD2.out.trans (hb.mono hz2))
                          have hz3 : y0.heap.size ≤ y3.heap.size := HD3.out.size
                          have HIa3 := Lib.hid (Raw.below HIa2.out hb)
                          have HEa3 := Lib.hid (Raw.below HEa2.out hb)
                          have HB3 := Lib.hid ((hb.block B hBl2).trans HB2.out)
                          have hBl3 : B < y3.heap.size := by omega
                          have HS3 := Lib.hid (same_below' HS2.out hb)
                          clear hzz hb
                          go_wp2
                          refine Txt.SegPost.mk (Txt.Ty.Shown.same HS3.out) ?_
                          (try simp only [Txt.pick, List.getElem?_cons_succ, List.getElem?_cons_zero])
                          go_wp2
                          refine Txt.RunPost.mk ?_
                          exact Ta4.out y3 B ta1 ta2 te1 te2 tb1 tb2 tf1 tf2 ⟨HD3.out, hz3, HS3.out, HIa3.out, HEa3.out, HIb3.out, HEb3.out, HB3.out, hBl3, hBg⟩
                        · (try simp only [Txt.pick, List.getElem?_cons_succ, List.getElem?_cons_zero])
                          go_wp2
                          obtain ⟨A, hA⟩ : ∃ A, A = y2.heap.size := ⟨_, rfl⟩
                          obtain ⟨y3, hw⟩ : ∃ X, X = y2.alloc (.cells #[.int .i64 0, .int .i64 0, .int .i64 0, .slice none 0 0, .slice none 0 0] 43) := ⟨_, rfl⟩
                          rw [← hw, ← hA]
                          have hb : Below y2.heap.size y2 y3 := by rw [hw]; exact (Below.refl _ _).alloc (Nat.le_refl _) _
                          have HA3 : Hid (y3.heap[A]? = some (.cells #[.int .i64 0, .int .i64 0, .int .i64 0, .slice none 0 0, .slice none 0 0] 43 (0, 0))) := Lib.hid (by rw [hw, hA]; exact heap_alloc_new _ _)
                          have hAl3 : A < y3.heap.size := (Array.getElem?_eq_some_iff.1 HA3.out).1
                          have hAg : y0.heap.size ≤ A := by omega
                          have hAB : A ≠ B := by omega
                          clear hw hA
                          have hzz := hb.size
                          have HD3 := Lib.hid (HD2.out.trans (hb.mono hz2))
                          have hz3 : y0.heap.size ≤ y3.heap.size := HD3.out.size
                          have HIa3 := Lib.hid (Raw.below HIa2.out hb)
                          have HEa3 := Lib.hid (Raw.below HEa2.out hb)
                          have HB3 := Lib.hid ((hb.block B hBl2).trans HB2.out)
                          have hBl3 : B < y3.heap.size := by omega
                          have HS3 := Lib.hid (same_below' HS2.out hb)
                          clear hzz hb
                          refine Txt.SegPost.mk (Txt.Ty.Shown.same HS3.out) ?_
                          (try simp only [Txt.pick, List.getElem?_cons_succ, List.getElem?_cons_zero])
                          go_wp2
                          refine Txt.RunPost.mk ?_
                          exact Ta5.out y3 A B ta1 ta2 te1 te2 ⟨HD3.out, hz3, HS3.out, HIa3.out, HEa3.out, HA3.out, hAl3, hAg, HB3.out, hBl3, hBg, hAB⟩
                    · rintro y2 A B ⟨qHD2, hz2, qHS2, qHA2, hAl2, hAg, qHB2, hBl2, hBg, hAB⟩
                      have HD2 := Lib.hid qHD2
                      have HS2 := Lib.hid qHS2
                      have HA2 := Lib.hid qHA2
                      have HB2 := Lib.hid qHB2
                      clear qHD2 qHS2 qHA2 qHB2
                      refine Txt.Ty.wpTr_alt ?_ Txt.Ty.wpTr_no
                      (try simp only [Txt.pick, List.getElem?_cons_succ, List.getElem?_cons_zero])
                      go_wp2_with fail
                      refine (to_any [] c.a _ _ _ (by omega) (by omega) (Raw.below HRa.out HD2.out) (Raw.below HRe.out HD2.out)).mono ?_
                      rintro e y3 ⟨ta, te, rfl, o1, o2, hb⟩
                      obtain ⟨ta1, ta2, rfl⟩ := own_slice o1
                      obtain ⟨te1, te2, rfl⟩ := own_slice o2
                      have HIa3 := Lib.hid (Bytes.row (F := []) o1 rfl (fun f hf => by cases hf))
                      have HEa3 := Lib.hid (Bytes.row (F := []) o2 rfl (fun f hf => by cases hf))
                      clear o1 o2
                      have hzz := hb.size
                      have HD3 := Lib.hid (HD2.out.trans (hb.mono hz2))
                      have hz3 : y0.heap.size ≤ y3.heap.size := HD3.out.size
                      have HA3 := Lib.hid ((hb.block A hAl2).trans HA2.out)
                      have hAl3 : A < y3.heap.size := by omega
                      have HB3 := Lib.hid ((hb.block B hBl2).trans HB2.out)
                      have hBl3 : B < y3.heap.size := by omega
                      have HS3 := Lib.hid (same_below' HS2.out hb)
                      clear hzz hb
                      go_wp2
                      refine Txt.SegPost.mk (Txt.Ty.Shown.same HS3.out) ?_
                      (try simp only [Txt.pick, List.getElem?_cons_succ, List.getElem?_cons_zero])
                      go_wp2
                      refine Txt.RunPost.mk ?_
                      exact Ta5.out y3 A B ta1 ta2 te1 te2 ⟨HD3.out, hz3, HS3.out, HIa3.out, HEa3.out, HA3.out, hAl3, hAg, HB3.out, hBl3, hBg, hAB⟩
                  · rintro y3 A ta1 ta2 te1 te2 tb1 tb2 tf1 tf2 ⟨qHD3, hz3, qHS3, qHIa3, qHEa3, qHIb3, qHEb3, qHA3, hAl3, hAg⟩
                    have HD3 := Lib.hid qHD3
                    have HS3 := Lib.hid qHS3
                    have HIa3 := Lib.hid qHIa3
                    have HEa3 := Lib.hid qHEa3
                    have HIb3 := Lib.hid qHIb3
                    have HEb3 := Lib.hid qHEb3
                    have HA3 := Lib.hid qHA3
                    clear qHD3 qHS3 qHIa3 qHEa3 qHIb3 qHEb3 qHA3
                    refine Txt.Ty.wpTr_alt ?_ (Txt.Ty.wpTr_alt ?_ Txt.Ty.wpTr_no)
                    · (try simp only [Txt.pick, List.getElem?_cons_succ, List.getElem?_cons_zero])
                      go_wp2_with fail
                      refine (ull_outcomes2 (HU0.out.below HD3.out) c.p c.a c.b _ _ _ _ (by omega) (by omega) (by omega) (by omega) HIa3.out HEa3.out HIb3.out HEb3.out).mono ?_
                      rintro e y4 ⟨fa, fb, ja, je, jb, jf, hfa, hfb, rfl, o1, o2, o3, o4, hb⟩
                      obtain ⟨ja1, ja2, rfl⟩ := own_slice o1
                      obtain ⟨je1, je2, rfl⟩ := own_slice o2
                      obtain ⟨jb1, jb2, rfl⟩ := own_slice o3
                      obtain ⟨jf1, jf2, rfl⟩ := own_slice o4
                      have HFA := Lib.hid hfa; have HFB := Lib.hid hfb
                      have HO14 := Lib.hid (own_base o1 hz3)
                      have HO24 := Lib.hid (own_base o2 hz3)
                      have HO34 := Lib.hid (own_base o3 hz3)
                      have HO44 := Lib.hid (own_base o4 hz3)
                      clear hfa hfb o1 o2 o3 o4
                      have hzz := hb.size
                      have HD4 := Lib.hid (HD3.out.trans (hb.mono hz3))
                      have hz4 : y0.heap.size ≤ y4.heap.size := HD4.out.size
                      have HA4 := Lib.hid ((hb.block A hAl3).trans HA3.out)
                      have hAl4 : A < y4.heap.size := by omega
                      have HS4 := Lib.hid (same_below' HS3.out hb)
                      clear hzz hb
                      go_wp2
                      refine Txt.SegPost.mk (Txt.Ty.Shown.same HS4.out) ?_
                      (try simp only [Txt.pick, List.getElem?_cons_succ, List.getElem?_cons_zero])
                      go_wp2
                      refine Txt.RunPost.mk ?_
                      exact Ta7.out y4 A ta1 ta2 te1 te2 tb1 tb2 tf1 tf2 fa fb ja1 ja2 je1 je2 jb1 jb2 jf1 jf2 ⟨HD4.out, hz4, HS4.out, HO14.out, HO24.out, HO34.out, HO44.out, HFA.out, HFB.out, HA4.out, hAl4, hAg⟩
                    · (try simp only [Txt.pick, List.getElem?_cons_succ, List.getElem?_cons_zero])
                      go_wp2
                      obtain ⟨B, hB⟩ : ∃ A, A = y3.heap.size := ⟨_, rfl⟩
                      obtain ⟨y4, hw⟩ : ∃ X, X = y3.alloc (.cells #[.int .i64 0, .int .i64 0, .int .i64 0, .slice none 0 0, .slice none 0 0] 43) := ⟨_, rfl⟩
                      rw [← hw, ← hB]
                      have hb : Below y3.heap.size y3 y4 := by rw [hw]; exact (Below.refl _ _).alloc (Nat.le_refl _) _
                      have HB4 : Hid (y4.heap[B]? = some (.cells #[.int .i64 0, .int .i64 0, .int .i64 0, .slice none 0 0, .slice none 0 0] 43 (0, 0))) := Lib.hid (by rw [hw, hB]; exact heap_alloc_new _ _)
                      have hBl4 : B < y4.heap.size := (Array.getElem?_eq_some_iff.1 HB4.out).1
                      have hBg : y0.heap.size ≤ B := by omega
                      have hAB : A ≠ B := by omega
                      clear hw hB
                      have hzz := hb.size
                      have HD4 := Lib.hid (HD3.out.trans (hb.mono hz3))
                      have hz4 : y0.heap.size ≤ y4.heap.size := HD4.out.size
                      have HIa4 := Lib.hid (Raw.below HIa3.out hb)
                      have HEa4 := Lib.hid (Raw.below HEa3.out hb)
                      have HIb4 := Lib.hid (Raw.below HIb3.out hb)
                      have HEb4 := Lib.hid (Raw.below HEb3.out hb)
                      have HA4 := Lib.hid ((hb.block A hAl3).trans HA3.out)
                      have hAl4 : A < y4.heap.size := by omega
                      have HS4 := Lib.hid (same_below' HS3.out hb)
                      clear hzz hb
                      refine Txt.SegPost.mk (Txt.Ty.Shown.same HS4.out) ?_
                      (try simp only [Txt.pick, List.getElem?_cons_succ, List.getElem?_cons_zero])
                      go_wp2
                      refine Txt.RunPost.mk ?_
                      exact Ta6.out y4 A B ta1 ta2 te1 te2 tb1 tb2 tf1 tf2 ⟨HD4.out, hz4, HS4.out, HIa4.out, HEa4.out, HIb4.out, HEb4.out, HA4.out, hAl4, hAg, HB4.out, hBl4, hBg, hAB⟩
                · rintro y3 B ta1 ta2 te1 te2 tb1 tb2 tf1 tf2 ⟨qHD3, hz3, qHS3, qHIa3, qHEa3, qHIb3, qHEb3, qHB3, hBl3, hBg⟩
                  have HD3 := Lib.hid qHD3
                  have HS3 := Lib.hid qHS3
                  have HIa3 := Lib.hid qHIa3
                  have HEa3 := Lib.hid qHEa3
                  have HIb3 := Lib.hid qHIb3
                  have HEb3 := Lib.hid qHEb3
                  have HB3 := Lib.hid qHB3
                  clear qHD3 qHS3 qHIa3 qHEa3 qHIb3 qHEb3 qHB3
                  refine Txt.Ty.wpTr_alt ?_ (Txt.Ty.wpTr_alt ?_ Txt.Ty.wpTr_no)
                  · (try simp only [Txt.pick, List.getElem?_cons_succ, List.getElem?_cons_zero])
                    go_wp2_with fail
                    refine (ull_outcomes2 (HU0.out.below HD3.out) c.p c.a c.b _ _ _ _ (by omega) (by omega) (by omega) (by omega) HIa3.out HEa3.out HIb3.out HEb3.out).mono ?_
                    rintro e y4 ⟨fa, fb, ja, je, jb, jf, hfa, hfb, rfl, o1, o2, o3, o4, hb⟩
                    obtain ⟨ja1, ja2, rfl⟩ := own_slice o1
                    obtain ⟨je1, je2, rfl⟩ := own_slice o2
                    obtain ⟨jb1, jb2, rfl⟩ := own_slice o3
                    obtain ⟨jf1, jf2, rfl⟩ := own_slice o4
                    have HFA := Lib.hid hfa; have HFB := Lib.hid hfb
                    have HO14 := Lib.hid (own_base o1 hz3)
                    have HO24 := Lib.hid (own_base o2 hz3)
                    have HO34 := Lib.hid (own_base o3 hz3)
                    have HO44 := Lib.hid (own_base o4 hz3)
                    clear hfa hfb o1 o2 o3 o4
                    have hzz := hb.size
                    have HD4 := Lib.hid (HD3.out.trans (hb.mono hz3))
                    have hz4 : y0.heap.size ≤ y4.heap.size := HD4.out.size
                    have HB4 := Lib.hid ((hb.block B hBl3).trans HB3.out)
                    have hBl4 : B < y4.heap.size := by omega
                    have HS4 := Lib.hid (same_below' HS3.out hb)
                    clear hzz hb
                    go_wp2
                    refine Txt.SegPost.mk (Txt.Ty.Shown.same HS4.out) ?_
                    (try simp only [Txt.pick, List.getElem?_cons_succ, List.getElem?_cons_zero])
                    go_wp2
                    refine Txt.RunPost.mk ?_
                    exact Ta8.out y4 B ta1 ta2 te1 te2 tb1 tb2 tf1 tf2 fa fb ja1 ja2 je1 je2 jb1 jb2 jf1 jf2 ⟨HD4.out, hz4, HS4.out, HO14.out, HO24.out, HO34.out, HO44.out, HFA.out, HFB.out, HB4.out, hBl4, hBg⟩
                  · (try simp only [Txt.pick, List.getElem?_cons_succ, List.getElem?_cons_zero])
                    go_wp2
                    obtain ⟨A, hA⟩ : ∃ A, A = y3.heap.size := ⟨_, rfl⟩
                    obtain ⟨y4, hw⟩ : ∃ X, X = y3.alloc (.cells #[.int .i64 0, .int .i64 0, .int .i64 0, .slice none 0 0, .slice none 0 0] 43) := ⟨_, rfl⟩
                    rw [← hw, ← hA]
                    have hb : Below y3.heap.size y3 y4 := by rw [hw]; exact (Below.refl _ _).alloc (Nat.le_refl _) _
                    have HA4 : Hid (y4.heap[A]? = some (.cells #[.int .i64 0, .int .i64 0, .int .i64 0, .slice none 0 0, .slice none 0 0] 43 (0, 0))) := Lib.hid (by rw [hw, hA]; exact heap_alloc_new _ _)
                    have hAl4 : A < y4.heap.size := (Array.getElem?_eq_some_iff.1 HA4.out).1
                    have hAg : y0.heap.size ≤ A := by omega
                    have hAB : A ≠ B := by omega
                    clear hw hA
                    have hzz := hb.size
                    have HD4 := Lib.hid (HD3.out.trans (hb.mono hz3))
                    have hz4 : y0.heap.size ≤ y4.heap.size := HD4.out.size
                    have HIa4 := Lib.hid (Raw.below HIa3.out hb)
                    have HEa4 := Lib.hid (Raw.below HEa3.out hb)
                    have HIb4 := Lib.hid (Raw.below HIb3.out hb)
                    have HEb4 := Lib.hid (Raw.below HEb3.out hb)
                    have HB4 := Lib.hid ((hb.block B hBl3).trans HB3.out)
                    have hBl4 : B < y4.heap.size := by omega
                    have HS4 := Lib.hid (same_below' HS3.out hb)
                    clear hzz hb
                    refine Txt.SegPost.mk (Txt.Ty.Shown.same HS4.out) ?_
                    (try simp only [Txt.pick, List.getElem?_cons_succ, List.getElem?_cons_zero])
                    go_wp2
                    refine Txt.RunPost.mk ?_
                    exact Ta6.out y4 A B ta1 ta2 te1 te2 tb1 tb2 tf1 tf2 ⟨HD4.out, hz4, HS4.out, HIa4.out, HEa4.out, HIb4.out, HEb4.out, HA4.out, hAl4, hAg, HB4.out, hBl4, hBg, hAB⟩
              · rintro y3 A B ta1 ta2 te1 te2 ⟨qHD3, hz3, qHS3, qHIa3, qHEa3, qHA3, hAl3, hAg, qHB3, hBl3, hBg, hAB⟩
                have HD3 := Lib.hid qHD3
                have HS3 := Lib.hid qHS3
                have HIa3 := Lib.hid qHIa3
                have HEa3 := Lib.hid qHEa3
                have HA3 := Lib.hid qHA3
                have HB3 := Lib.hid qHB3
                clear qHD3 qHS3 qHIa3 qHEa3 qHA3 qHB3
                refine Txt.Ty.wpTr_alt ?_ Txt.Ty.wpTr_no
                (try simp only [Txt.pick, List.getElem?_cons_succ, List.getElem?_cons_zero])
                go_wp2_with fail
                refine (to_any [] c.b _ _ _ (by omega) (by omega) (Raw.below HRb.out HD3.out) (Raw.below HRf.out HD3.out)).mono ?_
                rintro e y4 ⟨tb, tf, rfl, o1, o2, hb⟩
                obtain ⟨tb1, tb2, rfl⟩ := own_slice o1
                obtain ⟨tf1, tf2, rfl⟩ := own_slice o2
                have HIb4 := Lib.hid (Bytes.row (F := []) o1 rfl (fun f hf => by cases hf))
                have HEb4 := Lib.hid (Bytes.row (F := []) o2 rfl (fun f hf => by cases hf))
                clear o1 o2
                have hzz := hb.size
                have HD4 := Lib.hid (HD3.out.trans (hb.mono hz3))
                have hz4 : y0.heap.size ≤ y4.heap.size := HD4.out.size
                have HIa4 := Lib.hid (Raw.below HIa3.out hb)
                have HEa4 := Lib.hid (Raw.below HEa3.out hb)
                have HA4 := Lib.hid ((hb.block A hAl3).trans HA3.out)
                have hAl4 : A < y4.heap.size := by omega
                have HB4 := Lib.hid ((hb.block B hBl3).trans HB3.out)
                have hBl4 : B < y4.heap.size := by omega
                have HS4 := Lib.hid (same_below' HS3.out hb)
                clear hzz hb
                go_wp2
                refine Txt.SegPost.mk (Txt.Ty.Shown.same HS4.out) ?_
                (try simp only [Txt.pick, List.getElem?_cons_succ, List.getElem?_cons_zero])
                go_wp2
                refine Txt.RunPost.mk ?_
                exact Ta6.out y4 A B ta1 ta2 te1 te2 tb1 tb2 tf1 tf2 ⟨HD4.out, hz4, HS4.out, HIa4.out, HEa4.out, HIb4.out, HEb4.out, HA4.out, hAl4, hAg, HB4.out, hBl4, hBg, hAB⟩
            · rintro y4 A B ta1 ta2 te1 te2 tb1 tb2 tf1 tf2 ⟨qHD4, hz4, qHS4, qHIa4, qHEa4, qHIb4, qHEb4, qHA4, hAl4, hAg, qHB4, hBl4, hBg, hAB⟩
              have HD4 := Lib.hid qHD4
              have HS4 := Lib.hid qHS4
              have HIa4 := Lib.hid qHIa4
              have HEa4 := Lib.hid qHEa4
              have HIb4 := Lib.hid qHIb4
              have HEb4 := Lib.hid qHEb4
              have HA4 := Lib.hid qHA4
              have HB4 := Lib.hid qHB4
              clear qHD4 qHS4 qHIa4 qHEa4 qHIb4 qHEb4 qHA4 qHB4
              refine Txt.Ty.wpTr_alt ?_ Txt.Ty.wpTr_no
              (try simp only [Txt.pick, List.getElem?_cons_succ, List.getElem?_cons_zero])
              go_wp2_with fail
              refine (ull_outcomes2 (HU0.out.below HD4.out) c.p c.a c.b _ _ _ _ (by omega) (by omega) (by omega) (by omega) HIa4.out HEa4.out HIb4.out HEb4.out).mono ?_
              rintro e y5 ⟨fa, fb, ja, je, jb, jf, hfa, hfb, rfl, o1, o2, o3, o4, hb⟩
              obtain ⟨ja1, ja2, rfl⟩ := own_slice o1
              obtain ⟨je1, je2, rfl⟩ := own_slice o2
              obtain ⟨jb1, jb2, rfl⟩ := own_slice o3
              obtain ⟨jf1, jf2, rfl⟩ := own_slice o4
              have HFA := Lib.hid hfa; have HFB := Lib.hid hfb
              have HO15 := Lib.hid (own_base o1 hz4)
              have HO25 := Lib.hid (own_base o2 hz4)
              have HO35 := Lib.hid (own_base o3 hz4)
              have HO45 := Lib.hid (own_base o4 hz4)
              clear hfa hfb o1 o2 o3 o4
              have hzz := hb.size
              have HD5 := Lib.hid (HD4.out.trans (hb.mono hz4))
              have hz5 : y0.heap.size ≤ y5.heap.size := HD5.out.size
              have HA5 := Lib.hid ((hb.block A hAl4).trans HA4.out)
              have hAl5 : A < y5.heap.size := by omega
              have HB5 := Lib.hid ((hb.block B hBl4).trans HB4.out)
              have hBl5 : B < y5.heap.size := by omega
              have HS5 := Lib.hid (same_below' HS4.out hb)
              clear hzz hb
              go_wp2
              refine Txt.SegPost.mk (Txt.Ty.Shown.same HS5.out) ?_
              (try simp only [Txt.pick, List.getElem?_cons_succ, List.getElem?_cons_zero])
              go_wp2
              refine Txt.RunPost.mk ?_
              exact Ta9.out y5 A B ta1 ta2 te1 te2 tb1 tb2 tf1 tf2 fa fb ja1 ja2 je1 je2 jb1 jb2 jf1 jf2 ⟨HD5.out, hz5, HS5.out, HO15.out, HO25.out, HO35.out, HO45.out, HFA.out, HFB.out, HA5.out, hAl5, hAg, HB5.out, hBl5, hBg, hAB⟩
          · rintro y4 A ta1 ta2 te1 te2 tb1 tb2 tf1 tf2 fa fb ja1 ja2 je1 je2 jb1 jb2 jf1 jf2 ⟨qHD4, hz4, qHS4, qHO14, qHO24, qHO34, qHO44, qHFA, qHFB, qHA4, hAl4, hAg⟩
            have HD4 := Lib.hid qHD4
            have HS4 := Lib.hid qHS4
            have HO14 := Lib.hid qHO14
            have HO24 := Lib.hid qHO24
            have HO34 := Lib.hid qHO34
            have HO44 := Lib.hid qHO44
            have HFA := Lib.hid qHFA
            have HFB := Lib.hid qHFB
            have HA4 := Lib.hid qHA4
            clear qHD4 qHS4 qHO14 qHO24 qHO34 qHO44 qHFA qHFB qHA4
            refine Txt.Ty.wpTr_alt ?_ Txt.Ty.wpTr_no
            (try simp only [Txt.pick, List.getElem?_cons_succ, List.getElem?_cons_zero])
            go_wp2
            obtain ⟨B, hB⟩ : ∃ A, A = y4.heap.size := ⟨_, rfl⟩
            obtain ⟨y5, hw⟩ : ∃ X, X = y4.alloc (.cells #[.int .i64 0, .int .i64 0, .int .i64 0, .slice none 0 0, .slice none 0 0] 43) := ⟨_, rfl⟩
            rw [← hw, ← hB]
            have hb : Below y4.heap.size y4 y5 := by rw [hw]; exact (Below.refl _ _).alloc (Nat.le_refl _) _
            have HB5 : Hid (y5.heap[B]? = some (.cells #[.int .i64 0, .int .i64 0, .int .i64 0, .slice none 0 0, .slice none 0 0] 43 (0, 0))) := Lib.hid (by rw [hw, hB]; exact heap_alloc_new _ _)
            have hBl5 : B < y5.heap.size := (Array.getElem?_eq_some_iff.1 HB5.out).1
            have hBg : y0.heap.size ≤ B := by omega
            have hAB : A ≠ B := by omega
            clear hw hB
            have hzz := hb.size
            have HD5 := Lib.hid (HD4.out.trans (hb.mono hz4))
            have hz5 : y0.heap.size ≤ y5.heap.size := HD5.out.size
            have HO15 := Lib.hid (own_below HO14.out hb (Nat.le_refl _))
            have HO25 := Lib.hid (own_below HO24.out hb (Nat.le_refl _))
            have HO35 := Lib.hid (own_below HO34.out hb (Nat.le_refl _))
            have HO45 := Lib.hid (own_below HO44.out hb (Nat.le_refl _))
            have HA5 := Lib.hid ((hb.block A hAl4).trans HA4.out)
            have hAl5 : A < y5.heap.size := by omega
            have HS5 := Lib.hid (same_below' HS4.out hb)
            clear hzz hb
            refine Txt.SegPost.mk (Txt.Ty.Shown.same HS5.out) ?_
            (try simp only [Txt.pick, List.getElem?_cons_succ, List.getElem?_cons_zero])
            go_wp2
            refine Txt.RunPost.mk ?_
            exact Ta9.out y5 A B ta1 ta2 te1 te2 tb1 tb2 tf1 tf2 fa fb ja1 ja2 je1 je2 jb1 jb2 jf1 jf2 ⟨HD5.out, hz5, HS5.out, HO15.out, HO25.out, HO35.out, HO45.out, HFA.out, HFB.out, HA5.out, hAl5, hAg, HB5.out, hBl5, hBg, hAB⟩
        · rintro y4 B ta1 ta2 te1 te2 tb1 tb2 tf1 tf2 fa fb ja1 ja2 je1 je2 jb1 jb2 jf1 jf2 ⟨qHD4, hz4, qHS4, qHO14, qHO24, qHO34, qHO44, qHFA, qHFB, qHB4, hBl4, hBg⟩
          have HD4 := Lib.hid qHD4
          have HS4 := Lib.hid qHS4
          have HO14 := Lib.hid qHO14
          have HO24 := Lib.hid qHO24
          have HO34 := Lib.hid qHO34
          have HO44 := Lib.hid qHO44
          have HFA := Lib.hid qHFA
          have HFB := Lib.hid qHFB
          have HB4 := Lib.hid qHB4
          clear qHD4 qHS4 qHO14 qHO24 qHO34 qHO44 qHFA qHFB qHB4
          refine Txt.Ty.wpTr_alt ?_ Txt.Ty.wpTr_no
          (try simp only [Txt.pick, List.getElem?_cons_succ, List.getElem?_cons_zero])
          go_wp2
          obtain ⟨A, hA⟩ : ∃ A, A = y4.heap.size := ⟨_, rfl⟩
          obtain ⟨y5, hw⟩ : ∃ X, X = y4.alloc (.cells #[.int .i64 0, .int .i64 0, .int .i64 0, .slice none 0 0, .slice none 0 0] 43) := ⟨_, rfl⟩
          rw [← hw, ← hA]
          have hb : Below y4.heap.size y4 y5 := by rw [hw]; exact (Below.refl _ _).alloc (Nat.le_refl _) _
          have HA5 : Hid (y5.heap[A]? = some (.cells #[.int .i64 0, .int .i64 0, .int .i64 0, .slice none 0 0, .slice none 0 0] 43 (0, 0))) := Lib.hid (by rw [hw, hA]; exact heap_alloc_new _ _)
          have hAl5 : A < y5.heap.size := (Array.getElem?_eq_some_iff.1 HA5.out).1
          have hAg : y0.heap.size ≤ A := by omega
          have hAB : A ≠ B := by omega
          clear hw hA
          have hzz := hb.size
          have HD5 := Lib.hid (HD4.out.trans (hb.mono hz4))
          have hz5 : y0.heap.size ≤ y5.heap.size := HD5.out.size
          have HO15 := Lib.hid (own_below HO14.out hb (Nat.le_refl _))
          have HO25 := Lib.hid (own_below HO24.out hb (Nat.le_refl _))
          have HO35 := Lib.hid (own_below HO34.out hb (Nat.le_refl _))
          have HO45 := Lib.hid (own_below HO44.out hb (Nat.le_refl _))
          have HB5 := Lib.hid ((hb.block B hBl4).trans HB4.out)
          have hBl5 : B < y5.heap.size := by omega
          have HS5 := Lib.hid (same_below' HS4.out hb)
          clear hzz hb
          refine Txt.SegPost.mk (Txt.Ty.Shown.same HS5.out) ?_
          (try simp only [Txt.pick, List.getElem?_cons_succ, List.getElem?_cons_zero])
          go_wp2
          refine Txt.RunPost.mk ?_
          exact Ta9.out y5 A B ta1 ta2 te1 te2 tb1 tb2 tf1 tf2 fa fb ja1 ja2 je1 je2 jb1 jb2 jf1 jf2 ⟨HD5.out, hz5, HS5.out, HO15.out, HO25.out, HO35.out, HO45.out, HFA.out, HFB.out, HA5.out, hAl5, hAg, HB5.out, hBl5, hBg, hAB⟩
      · rintro y5 A B ta1 ta2 te1 te2 tb1 tb2 tf1 tf2 fa fb ja1 ja2 je1 je2 jb1 jb2 jf1 jf2 ⟨qHD5, hz5, qHS5, qHO15, qHO25, qHO35, qHO45, qHFA, qHFB, qHA5, hAl5, hAg, qHB5, hBl5, hBg, hAB⟩
        have HD5 := Lib.hid qHD5
        have HS5 := Lib.hid qHS5
        have HO15 := Lib.hid qHO15
        have HO25 := Lib.hid qHO25
        have HO35 := Lib.hid qHO35
        have HO45 := Lib.hid qHO45
        have HFA := Lib.hid qHFA
        have HFB := Lib.hid qHFB
        have HA5 := Lib.hid qHA5
        have HB5 := Lib.hid qHB5
        clear qHD5 qHS5 qHO15 qHO25 qHO35 qHO45 qHFA qHFB qHA5 qHB5
        refine Txt.Ty.wpTr_alt ?_ Txt.Ty.wpTr_no
        (try simp only [Txt.pick, List.getElem?_cons_succ, List.getElem?_cons_zero])
        have r0 := box_at HA5.out (j := 0) rfl
        have r1 := box_at HA5.out (j := 1) rfl
        have r2 := box_at HA5.out (j := 2) rfl
        have r3 := box_at HA5.out (j := 3) rfl
        have r4 := box_at HA5.out (j := 4) rfl
        have f0 := box_free HA5.out 0
        have f1 := box_free HA5.out 1
        have f2 := box_free HA5.out 2
        have f3 := box_free HA5.out 3
        have f4 := box_free HA5.out 4
        go_wp2
        clear r0 r1 r2 r3 r4 f0 f1 f2 f3 f4
        obtain ⟨y6, hN⟩ : ∃ X, X = (((((y5.setCell ⟨A, 0, none⟩ (.int .i64 fa.en)).setCell ⟨A, 1, none⟩ (.int .i64 fa.st)).setCell ⟨A, 2, none⟩ (.int .i64 fa.er)).setCell ⟨A, 3, none⟩ (.slice ja1 fa.im.length ja2)).setCell ⟨A, 4, none⟩ (.slice je1 fa.ef.length je2)) := ⟨_, rfl⟩
        rw [← hN]
        obtain ⟨hNb, hNk⟩ := puts_at [(0, .int .i64 fa.en), (1, .int .i64 fa.st), (2, .int .i64 fa.er), (3, .slice ja1 fa.im.length ja2), (4, .slice je1 fa.ef.length je2)] HA5.out
        have hNe : puts y5 A [(0, .int .i64 fa.en), (1, .int .i64 fa.st), (2, .int .i64 fa.er), (3, .slice ja1 fa.im.length ja2), (4, .slice je1 fa.ef.length je2)] = y6 := hN.symm
        have hNz := puts_size [(0, .int .i64 fa.en), (1, .int .i64 fa.st), (2, .int .i64 fa.er), (3, .slice ja1 fa.im.length ja2), (4, .slice je1 fa.ef.length je2)] y5 A
        rw [hNe] at hNb hNk hNz
        have HK6 := Lib.hid hNk
        have HZ6 := Lib.hid hNz
        have HA6 : Hid (y6.heap[A]? = some (.cells #[.int .i64 fa.en, .int .i64 fa.st, .int .i64 fa.er, .slice ja1 fa.im.length ja2, .slice je1 fa.ef.length je2] 43 (0, 0))) := Lib.hid hNb
        have hz6 : y0.heap.size ≤ y6.heap.size := by have := HZ6.out; omega
        have HD6 := Lib.hid (HD5.out.trans (hNk.below hz5 (fun f hf => by rw [List.mem_singleton.1 hf]; omega)))
        have hAl6 : A < y6.heap.size := by have := HZ6.out; omega
        have hBl6 : B < y6.heap.size := by have := HZ6.out; omega
        have HB6 := Lib.hid ((hNk.block B hBl5 (fun hm => by rw [List.mem_singleton] at hm; omega)).trans HB5.out)
        have HO16 := Lib.hid (own_keepT HO15.out HA5.out (by decide) hNk)
        have HO26 := Lib.hid (own_keepT HO25.out HA5.out (by decide) hNk)
        have HO36 := Lib.hid (own_keepT HO35.out HA5.out (by decide) hNk)
        have HO46 := Lib.hid (own_keepT HO45.out HA5.out (by decide) hNk)
        clear hN hNb hNk hNe hNz
        refine Txt.SegPost.mk (Txt.Ty.Shown.last rfl) ?_
        (try simp only [Txt.pick, List.getElem?_cons_succ, List.getElem?_cons_zero])
        go_wp2
        refine Txt.RunPost.mk ?_
        refine Txt.Ty.wpTr_alt ?_ Txt.Ty.wpTr_no
        (try simp only [Txt.pick, List.getElem?_cons_succ, List.getElem?_cons_zero])
        have r0 := box_at HB6.out (j := 0) rfl
        have r1 := box_at HB6.out (j := 1) rfl
        have r2 := box_at HB6.out (j := 2) rfl
        have r3 := box_at HB6.out (j := 3) rfl
        have r4 := box_at HB6.out (j := 4) rfl
        have f0 := box_free HB6.out 0
        have f1 := box_free HB6.out 1
        have f2 := box_free HB6.out 2
        have f3 := box_free HB6.out 3
        have f4 := box_free HB6.out 4
        go_wp2
        clear r0 r1 r2 r3 r4 f0 f1 f2 f3 f4
        obtain ⟨y7, hN⟩ : ∃ X, X = (((((y6.setCell ⟨B, 0, none⟩ (.int .i64 fb.en)).setCell ⟨B, 1, none⟩ (.int .i64 fb.st)).setCell ⟨B, 2, none⟩ (.int .i64 fb.er)).setCell ⟨B, 3, none⟩ (.slice jb1 fb.im.length jb2)).setCell ⟨B, 4, none⟩ (.slice jf1 fb.ef.length jf2)) := ⟨_, rfl⟩
        rw [← hN]
        obtain ⟨hNb, hNk⟩ := puts_at [(0, .int .i64 fb.en), (1, .int .i64 fb.st), (2, .int .i64 fb.er), (3, .slice jb1 fb.im.length jb2), (4, .slice jf1 fb.ef.length jf2)] HB6.out
        have hNe : puts y6 B [(0, .int .i64 fb.en), (1, .int .i64 fb.st), (2, .int .i64 fb.er), (3, .slice jb1 fb.im.length jb2), (4, .slice jf1 fb.ef.length jf2)] = y7 := hN.symm
        have hNz := puts_size [(0, .int .i64 fb.en), (1, .int .i64 fb.st), (2, .int .i64 fb.er), (3, .slice jb1 fb.im.length jb2), (4, .slice jf1 fb.ef.length jf2)] y6 B
        rw [hNe] at hNb hNk hNz
        have HK7 := Lib.hid hNk
        have HZ7 := Lib.hid hNz
        have HB7 : Hid (y7.heap[B]? = some (.cells #[.int .i64 fb.en, .int .i64 fb.st, .int .i64 fb.er, .slice jb1 fb.im.length jb2, .slice jf1 fb.ef.length jf2] 43 (0, 0))) := Lib.hid hNb
        have hz7 : y0.heap.size ≤ y7.heap.size := by have := HZ7.out; omega
        have HD7 := Lib.hid (HD6.out.trans (hNk.below hz6 (fun f hf => by rw [List.mem_singleton.1 hf]; omega)))
        have hBl7 : B < y7.heap.size := by have := HZ7.out; omega
        have hAl7 : A < y7.heap.size := by have := HZ7.out; omega
        have HA7 := Lib.hid ((hNk.block A hAl6 (fun hm => by rw [List.mem_singleton] at hm; omega)).trans HA6.out)
        have HO17 := Lib.hid (own_keepT HO16.out HB6.out (by decide) hNk)
        have HO27 := Lib.hid (own_keepT HO26.out HB6.out (by decide) hNk)
        have HO37 := Lib.hid (own_keepT HO36.out HB6.out (by decide) hNk)
        have HO47 := Lib.hid (own_keepT HO46.out HB6.out (by decide) hNk)
        clear hN hNb hNk hNe hNz
        refine Txt.SegPost.mk (Txt.Ty.Shown.last rfl) ?_
        (try simp only [Txt.pick, List.getElem?_cons_succ, List.getElem?_cons_zero])
        go_wp2
        refine Txt.RunPost.mk ?_
        refine Txt.Ty.wpTr_done (by rfl) ⟨.head _, .head _, .head _, trivial⟩ ?_
        go_wp2
        go_meet
        case rel =>
          refine ⟨A, B, fa, fb, ja1, ja2, je1, je2, jb1, jb2, jf1, jf2, HFA.out, HFB.out, rfl, rfl, HA7.out, HB7.out, ?_, (HD7.out.block C (Array.getElem?_eq_some_iff.1 HC0.out).1).trans HC0.out⟩
          refine HU0.out.more HD7.out [(Value.slice ja1 fa.im.length ja2, fa.im), (.slice je1 fa.ef.length je2, fa.ef), (.slice jb1 fb.im.length jb2, fb.im), (.slice jf1 fb.ef.length jf2, fb.ef)] (fun p hp => ?_) [A, B] (fun z hz => ?_)
          · simp only [List.mem_cons, List.not_mem_nil, or_false] at hp
            rcases hp with rfl | rfl | rfl | rfl
            · exact ⟨_, HO17.out⟩
            · exact ⟨_, HO27.out⟩
            · exact ⟨_, HO37.out⟩
            · exact ⟨_, HO47.out⟩
          · simp only [List.mem_cons, List.not_mem_nil, or_false] at hz
            rcases hz with rfl | rfl
            · exact ⟨hAg, hAl7⟩
            · exact ⟨hBg, hBl7⟩
    case rest =>
      obtain ⟨A, B, fa, fb, ja1, ja2, je1, je2, jb1, jb2, jf1, jf2, hfa', hfb', rfl, rfl, hA, hB, hU, hCk⟩ := hcut
      obtain ⟨rows2, hr2⟩ : ∃ r, r = [(Value.slice ja1 fa.im.length ja2, fa.im), (.slice je1 fa.ef.length je2, fa.ef), (.slice jb1 fb.im.length jb2, fb.im), (.slice jf1 fb.ef.length jf2, fb.ef)] ++ rows := ⟨_, rfl⟩
      have n0 : (Value.slice ia im.length ic, im) ∈ rows2 := by rw [hr2]; exact List.mem_append_right _ m0
      have n1 : (Value.slice ja1 fa.im.length ja2, fa.im) ∈ rows2 := by rw [hr2]; simp
      have n2 : (Value.slice je1 fa.ef.length je2, fa.ef) ∈ rows2 := by rw [hr2]; simp
      have n3 : (Value.slice jb1 fb.im.length jb2, fb.im) ∈ rows2 := by rw [hr2]; simp
      have n4 : (Value.slice jf1 fb.ef.length jf2, fb.ef) ∈ rows2 := by rw [hr2]; simp
      rw [← hr2] at hU
      have HU6 := Lib.hid hU; have HA6 := Lib.hid hA; have HB6 := Lib.hid hB; have HC6 := Lib.hid hCk
      have hfal : fa.im.length ≤ 24000 := by rw [hfa']; exact Nat.le_trans (fout_il _ _ _) (by omega)
      clear hr2 hU hA hB hfa' hfb' m0 m1 m2 m3 m4 HU5 HC5
      have hc0 := HC6.out
      rw [HCC.out] at hc0
      have c_0 : wc.cell? ⟨C, 0, none⟩ = some (.int .i64 c.op) := box_at hc0 rfl
      have c_1 : wc.cell? ⟨C, 1, none⟩ = some (.int .i64 c.mode) := box_at hc0 rfl
      have c_2 : wc.cell? ⟨C, 2, none⟩ = some (.int .i64 c.p.c) := box_at hc0 rfl
      have c_3 : wc.cell? ⟨C, 3, none⟩ = some (.int .i64 c.p.n) := box_at hc0 rfl
      have c_4 : wc.cell? ⟨C, 4, none⟩ = some (.int .i64 c.p.e) := box_at hc0 rfl
      have c_5 : wc.cell? ⟨C, 5, none⟩ = some (.int .i64 c.p.k) := box_at hc0 rfl
      have c_6 : wc.cell? ⟨C, 6, none⟩ = some (.int .i64 c.p.s) := box_at hc0 rfl
      have c_7 : wc.cell? ⟨C, 7, none⟩ = some (.int .i64 c.p.pl) := box_at hc0 rfl
      have c_8 : wc.cell? ⟨C, 8, none⟩ = some (.int .i64 c.p.m) := box_at hc0 rfl
      have c_9 : wc.cell? ⟨C, 9, none⟩ = some (.int .i64 c.ms) := box_at hc0 rfl
      have c_10 : wc.cell? ⟨C, 10, none⟩ = some (.int .i64 c.md) := box_at hc0 rfl
      have c_11 : wc.cell? ⟨C, 11, none⟩ = some (.int .i64 c.mt) := box_at hc0 rfl
      have c_12 : wc.cell? ⟨C, 12, none⟩ = some (.int .i64 c.mq) := box_at hc0 rfl
      have c_13 : wc.cell? ⟨C, 13, none⟩ = some (.int .i64 c.m0) := box_at hc0 rfl
      have c_14 : wc.cell? ⟨C, 14, none⟩ = some (.int .i64 c.m1) := box_at hc0 rfl
      have c_15 : wc.cell? ⟨C, 15, none⟩ = some (.int .i64 c.m2) := box_at hc0 rfl
      have c_16 : wc.cell? ⟨C, 16, none⟩ = some (.int .i64 c.m3) := box_at hc0 rfl
      have c_17 : wc.cell? ⟨C, 17, none⟩ = some (.slice ma c.dl mc) := box_at hc0 rfl
      have c_18 : wc.cell? ⟨C, 18, none⟩ = some (.int .i64 c.a.en) := box_at hc0 rfl
      have c_19 : wc.cell? ⟨C, 19, none⟩ = some (.int .i64 c.a.st) := box_at hc0 rfl
      have c_20 : wc.cell? ⟨C, 20, none⟩ = some (.int .i64 c.a.er) := box_at hc0 rfl
      have c_21 : wc.cell? ⟨C, 21, none⟩ = some (.slice ai c.a.im.length ac) := box_at hc0 rfl
      have c_22 : wc.cell? ⟨C, 22, none⟩ = some (.slice ae c.a.ef.length aec) := box_at hc0 rfl
      have c_23 : wc.cell? ⟨C, 23, none⟩ = some (.int .i64 c.b.en) := box_at hc0 rfl
      have c_24 : wc.cell? ⟨C, 24, none⟩ = some (.int .i64 c.b.st) := box_at hc0 rfl
      have c_25 : wc.cell? ⟨C, 25, none⟩ = some (.int .i64 c.b.er) := box_at hc0 rfl
      have c_26 : wc.cell? ⟨C, 26, none⟩ = some (.slice bi c.b.im.length bc) := box_at hc0 rfl
      have c_27 : wc.cell? ⟨C, 27, none⟩ = some (.slice be c.b.ef.length bec) := box_at hc0 rfl
      have c_28 : wc.cell? ⟨C, 28, none⟩ = some (.bool c.pm) := box_at hc0 rfl
      clear hc0 hCk
      have a_0 : wc.cell? ⟨A, 0, none⟩ = some (.int .i64 fa.en) := box_at HA6.out rfl
      have a_1 : wc.cell? ⟨A, 1, none⟩ = some (.int .i64 fa.st) := box_at HA6.out rfl
      have a_2 : wc.cell? ⟨A, 2, none⟩ = some (.int .i64 fa.er) := box_at HA6.out rfl
      have a_3 : wc.cell? ⟨A, 3, none⟩ = some (.slice ja1 fa.im.length ja2) := box_at HA6.out rfl
      have a_4 : wc.cell? ⟨A, 4, none⟩ = some (.slice je1 fa.ef.length je2) := box_at HA6.out rfl
      have b_0 : wc.cell? ⟨B, 0, none⟩ = some (.int .i64 fb.en) := box_at HB6.out rfl
      have b_1 : wc.cell? ⟨B, 1, none⟩ = some (.int .i64 fb.st) := box_at HB6.out rfl
      have b_2 : wc.cell? ⟨B, 2, none⟩ = some (.int .i64 fb.er) := box_at HB6.out rfl
      have b_3 : wc.cell? ⟨B, 3, none⟩ = some (.slice jb1 fb.im.length jb2) := box_at HB6.out rfl
      have b_4 : wc.cell? ⟨B, 4, none⟩ = some (.slice jf1 fb.ef.length jf2) := box_at HB6.out rfl
      go_wp2_with fail
      refine (ull_finish HU6.out c.p fa fb _ _ _ _ c.ms c.md c.mt c.mq c.m0 c.m1 c.m2 c.m3 _ c.pm (by rw [HS.out]; rfl) (by rw [HS.out]; exact (by decide : (fs []).ver < 1000000)) hled hq1 hq2 (by rw [HX.out]; decide) (by rw [HX.out]; decide) hfal n1 n2 n3 n4).mono ?_
      rintro e w7 ⟨⟨x1, s1, c1, st1, e1⟩, hr, rfl, hU, hB⟩
      have hcase := fin_fresh (im := im) (r := ⟨x1, s1, c1, st1, e1⟩) (by rw [hr, HX.out, HS.out])
      have HU7 := Lib.hid hU
      have HA7 := Lib.hid ((hB A (by simp)).trans HA6.out)
      have HC7 := Lib.hid ((hB C (by simp)).trans HC6.out)
      clear hr hU hB HB6 c_0 c_1 c_2 c_3 c_4 c_5 c_6 c_7 c_8 c_9 c_10 c_11 c_12 c_13 c_14 c_15 c_16 c_17 c_18 c_19 c_20 c_21 c_22 c_23 c_24 c_25 c_26 c_27 c_28 a_0 a_1 a_2 a_3 a_4 b_0 b_1 b_2 b_3 b_4
      go_upto_region 9 with (fail)
      obtain ⟨V, hV⟩ : ∃ V, V = w7.heap.size := ⟨_, rfl⟩
      obtain ⟨w8, hw8⟩ : ∃ X, X = w7.alloc (.cells #[.int .i64 c1, .int .i64 st1] 49) := ⟨_, rfl⟩
      rw [← hw8, ← hV]
      have hb : Below w7.heap.size w7 w8 := by rw [hw8]; exact (Below.refl _ w7).alloc (Nat.le_refl _) _
      have HV8 : Hid (w8.heap[V]? = some (.cells #[.int .i64 c1, .int .i64 st1] 49 (0, 0))) := Lib.hid (by rw [hw8, hV]; exact heap_alloc_new w7 _)
      have HU8 := Lib.hid (HU7.out.own hb [V] (fun q hq => by rw [List.mem_singleton.1 hq]; exact ⟨by omega, (Array.getElem?_eq_some_iff.1 HV8.out).1⟩))
      have HA8 := Lib.hid ((hb.block A (Array.getElem?_eq_some_iff.1 HA7.out).1).trans HA7.out)
      have HC8 := Lib.hid ((hb.block C (Array.getElem?_eq_some_iff.1 HC7.out).1).trans HC7.out)
      clear hb hw8 hV HU7 HA7 HC7
      rcases hcase with ⟨he, hc, hd1, hl1, him⟩ | ⟨he, hx1, hs1⟩ | ⟨he, hc, hx1, hs1⟩
      · obtain rfl : e1 = 0 := he
        obtain rfl : c1 = 0 := hc
        have Hd : Hid (x1.down = false) := Lib.hid hd1
        have Hl : Hid (x1.lost = 0) := Lib.hid hl1
        have Him : Hid (s1.image = fa.im) := Lib.hid him
        clear hd1 hl1 him
        have v_0 : w8.cell? ⟨V, 0, none⟩ = some (.int .i64 0) := box_at HV8.out rfl
        have v_1 : w8.cell? ⟨V, 1, none⟩ = some (.int .i64 st1) := box_at HV8.out rfl
        go_upto_region 10 with (fail)
        clear v_0 v_1
        obtain ⟨bla, q1, q2⟩ := Raw.blocks (HU8.out.bytes n1) (by omega)
        have Hina := Lib.hid q1
        have Hbla := Lib.hid (fun b hb => (q2 b hb).2)
        clear q1 q2
        have hBl := show ∀ z ∈ A :: bla, ∃ cc e f, w8.heap[z]? = some (.cells cc e f) from fun z hz => by
          rcases List.mem_cons.1 hz with rfl | hz
          · exact ⟨_, _, _, HA8.out⟩
          · exact Hbla.out z hz
        refine Txt.Ty.wp_tree (A :: bla) [13, 14] [] [11, 13, 14] [0] (.alt [1, 2, 3, 4] (.alt [5, 6, 7, 8, 9, 12, 13, 14] (.alt [10, 11, 15, 16, 17] (.done) (.no)) (.no)) (.no)) (by kernel_rfl) (by kernel_rfl) (by kernel_rfl) (by kernel_rfl) hBl ?_
        obtain ⟨y0, hy0⟩ : ∃ y, y = w8.drew := ⟨_, rfl⟩
        have HS0 : Hid (Txt.SameB (A :: bla) y0 y0) := Lib.hid (by rw [hy0]; exact same_start hBl)
        clear hBl
        rw [← hy0]
        have hd : Below w8.heap.size w8 y0 := by rw [hy0]; exact (Below.refl _ _).drew
        have HU0 := Lib.hid (HU8.out.below hd)
        have HA0 := Lib.hid ((hd.block A (Array.getElem?_eq_some_iff.1 HA8.out).1).trans HA8.out)
        clear hd hy0
        have a_0 : y0.cell? ⟨A, 0, none⟩ = some (.int .i64 fa.en) := box_at HA0.out rfl
        have a_1 : y0.cell? ⟨A, 1, none⟩ = some (.int .i64 fa.st) := box_at HA0.out rfl
        have a_2 : y0.cell? ⟨A, 2, none⟩ = some (.int .i64 fa.er) := box_at HA0.out rfl
        have a_3 : y0.cell? ⟨A, 3, none⟩ = some (.slice ja1 fa.im.length ja2) := box_at HA0.out rfl
        have a_4 : y0.cell? ⟨A, 4, none⟩ = some (.slice je1 fa.ef.length je2) := box_at HA0.out rfl
        have k2 := run_str (HU0.out.bytes n1) 22 5 9 Try.underlying22 Try.underlying5 Try.underlying9
        (try simp only [Txt.pick, List.getElem?_cons_succ, List.getElem?_cons_zero])
        go_wp2
        refine Txt.RunPost.mk ?_
        refine Txt.Ty.wpTr_alt ?_ Txt.Ty.wpTr_no
        (try simp only [Txt.pick, List.getElem?_cons_succ, List.getElem?_cons_zero])
        go_wp2_with fail
        refine (ull_down HU0.out).mono ?_
        rw [Hd.out]
        rintro e w' ⟨rfl, rfl⟩
        go_wp2
        refine Txt.SegPost.mk (Txt.Ty.Shown.same HS0.out) ?_
        (try simp only [Txt.pick, List.getElem?_cons_succ, List.getElem?_cons_zero])
        go_wp2
        refine Txt.RunPost.mk ?_
        refine Txt.Ty.wpTr_alt ?_ Txt.Ty.wpTr_no
        (try simp only [Txt.pick, List.getElem?_cons_succ, List.getElem?_cons_zero])
        go_wp2_with fail
        refine (ull_lost HU0.out).mono ?_
        rw [Hl.out]
        rintro e w' ⟨rfl, rfl⟩
        go_wp2
        refine Txt.SegPost.mk (Txt.Ty.Shown.same HS0.out) ?_
        (try simp only [Txt.pick, List.getElem?_cons_succ, List.getElem?_cons_zero])
        go_wp2
        refine Txt.RunPost.mk ?_
        refine Txt.Ty.wpTr_alt ?_ Txt.Ty.wpTr_no
        (try simp only [Txt.pick, List.getElem?_cons_succ, List.getElem?_cons_zero])
        go_wp2_with fail
        refine (ull_image HU0.out).mono ?_
        rw [Him.out]
        rintro e y1 ⟨a10, c10, rfl, hb, hU⟩
        have HU1 := Lib.hid hU
        have k1 := run_str (hU.bytes (v := .slice a10 fa.im.length c10) (l := fa.im) (by simp)) 22 5 9 Try.underlying22 Try.underlying5 Try.underlying9
        have HS1 := Lib.hid (same_below' HS0.out hb)
        clear hb hU
        go_wp2
        refine Txt.SegPost.mk (Txt.Ty.Shown.same HS1.out) ?_
        (try simp only [Txt.pick, List.getElem?_cons_succ, List.getElem?_cons_zero])
        go_wp2
        refine Txt.RunPost.mk ?_
        refine Txt.Ty.wpTr_done (by rfl) ⟨.head _, Hina.out _ (fun b hb => List.mem_cons_of_mem _ hb), trivial⟩ ?_
        go_wp2
        go_ret
        exact ⟨by simp, HL3.out.trans (HU1.out.1.mono HL3.out.size)⟩
      · change ¬ e1 = 0 at he
        have ec : (e1 == 0) = false := by simp [he]
        change x1 = fx at hx1
        change s1 = fs im at hs1
        have Hdn : Hid (x1.down = false) := Lib.hid (by rw [hx1]; rfl)
        have Hnum : Hid (x1.num = 1) := Lib.hid (by rw [hx1]; rfl)
        have Hled : Hid (x1.led = []) := Lib.hid (by rw [hx1]; rfl)
        have Hled0 : Hid (x.led = []) := Lib.hid (by rw [HX.out]; rfl)
        have Him : Hid (s1.image = im) := Lib.hid (by rw [hs1]; rfl)
        have Hver : Hid (s1.ver = 0) := Lib.hid (by rw [hs1]; rfl)
        have Hinst : Hid (s1.inst = false) := Lib.hid (by rw [hs1]; rfl)
        have hled1 : x1.led.length ≤ 1000 := by rw [Hled.out]; decide
        have hatt1 : 0 ≤ x1.att ∧ x1.att ≤ 1000000 := by rw [hx1]; exact (by decide : 0 ≤ (1 : Int) ∧ (1 : Int) ≤ 1000000)
        have hnum1 : 0 ≤ x1.num ∧ x1.num ≤ 1000000 := by rw [Hnum.out]; decide
        have HX1 := Lib.hid hx1; have HS1x := Lib.hid hs1
        clear hx1 hs1 he
        have v_0 : w8.cell? ⟨V, 0, none⟩ = some (.int .i64 c1) := box_at HV8.out rfl
        have v_1 : w8.cell? ⟨V, 1, none⟩ = some (.int .i64 st1) := box_at HV8.out rfl
        go_upto_region 11 with (fail)
        clear v_0 v_1
        obtain ⟨bli, q1, q2⟩ := Raw.blocks (HU8.out.bytes n0) (by omega)
        have Hini := Lib.hid q1
        have Hbli := Lib.hid (fun b hb => (q2 b hb).2)
        clear q1 q2
        have hBl := show ∀ z ∈ bli, ∃ cc e f, w8.heap[z]? = some (.cells cc e f) from fun z hz => Hbli.out z hz
        refine Txt.Ty.wp_tree (bli) [4] [] [2, 4] [0, 3, 4] (.alt [1, 2, 5, 6, 7] (.alt [8, 9, 10, 11, 12, 14] (.alt [13] (.alt [15, 16, 17, 18, 19] (.alt [20, 21, 22, 23, 24, 26, 27] (.alt [25, 28, 29] (.done) (.no)) (.no)) (.no)) (.no)) (.no)) (.no)) (by kernel_rfl) (by kernel_rfl) (by kernel_rfl) (by kernel_rfl) hBl ?_
        obtain ⟨y0, hy0⟩ : ∃ y, y = w8.drew := ⟨_, rfl⟩
        have HS0 : Hid (Txt.SameB bli y0 y0) := Lib.hid (by rw [hy0]; exact same_start hBl)
        clear hBl
        rw [← hy0]
        have hd : Below w8.heap.size w8 y0 := by rw [hy0]; exact (Below.refl _ _).drew
        have HU0 := Lib.hid (HU8.out.below hd)
        have hb := hd
        have HV9 := Lib.hid ((hb.block V (Array.getElem?_eq_some_iff.1 HV8.out).1).trans HV8.out)
        have HA9 := Lib.hid ((hb.block A (Array.getElem?_eq_some_iff.1 HA8.out).1).trans HA8.out)
        have HC9 := Lib.hid ((hb.block C (Array.getElem?_eq_some_iff.1 HC8.out).1).trans HC8.out)
        clear hb hd hy0
        have k0 := run_str (HU0.out.bytes n0) 22 5 9 Try.underlying22 Try.underlying5 Try.underlying9
        (try simp only [Txt.pick, List.getElem?_cons_succ, List.getElem?_cons_zero])
        go_wp2
        refine Txt.RunPost.mk ?_
        refine Txt.Ty.wpTr_alt ?_ Txt.Ty.wpTr_no
        (try simp only [Txt.pick, List.getElem?_cons_succ, List.getElem?_cons_zero])
        go_wp2_with fail
        refine (ull_image HU0.out).mono ?_
        rw [Him.out]
        rintro e y1 ⟨a10, c10, rfl, hb, hU⟩
        have HU1 := Lib.hid hU
        have k1 := run_str (hU.bytes (v := .slice a10 im.length c10) (l := im) (by simp)) 22 5 9 Try.underlying22 Try.underlying5 Try.underlying9
        have HS1 := Lib.hid (same_below' HS0.out hb)
        have HV10 := Lib.hid ((hb.block V (Array.getElem?_eq_some_iff.1 HV9.out).1).trans HV9.out)
        have HA10 := Lib.hid ((hb.block A (Array.getElem?_eq_some_iff.1 HA9.out).1).trans HA9.out)
        have HC10 := Lib.hid ((hb.block C (Array.getElem?_eq_some_iff.1 HC9.out).1).trans HC9.out)
        clear hb hU
        go_wp2
        refine Txt.SegPost.mk (Txt.Ty.Shown.same HS1.out) ?_
        (try simp only [Txt.pick, List.getElem?_cons_succ, List.getElem?_cons_zero])
        go_wp2
        refine Txt.RunPost.mk ?_
        refine Txt.Ty.wpTr_alt ?_ Txt.Ty.wpTr_no
        (try simp only [Txt.pick, List.getElem?_cons_succ, List.getElem?_cons_zero])
        go_wp2_with fail
        refine (ull_version HU1.out).mono ?_
        rw [Hver.out]
        rintro e w' ⟨rfl, rfl⟩
        go_wp2
        refine Txt.SegPost.mk (Txt.Ty.Shown.same HS1.out) ?_
        (try simp only [Txt.pick, List.getElem?_cons_succ, List.getElem?_cons_zero])
        go_wp2
        refine Txt.RunPost.mk ?_
        refine Txt.Ty.wpTr_alt ?_ Txt.Ty.wpTr_no
        (try simp only [Txt.pick, List.getElem?_cons_succ, List.getElem?_cons_zero])
        go_wp2_with fail
        refine (ull_ledger HU1.out hled1).mono ?_
        rintro e y2 ⟨la2, lc2, rfl, hb, hsl, hU⟩
        have HU2 := Lib.hid hU
        have HSL2 := Lib.hid hsl
        have HS2 := Lib.hid (same_below' HS1.out hb)
        have HV11 := Lib.hid ((hb.block V (Array.getElem?_eq_some_iff.1 HV10.out).1).trans HV10.out)
        have HA11 := Lib.hid ((hb.block A (Array.getElem?_eq_some_iff.1 HA10.out).1).trans HA10.out)
        have HC11 := Lib.hid ((hb.block C (Array.getElem?_eq_some_iff.1 HC10.out).1).trans HC10.out)
        clear hb hU hsl
        go_wp2
        refine Txt.SegPost.mk (Txt.Ty.Shown.same HS2.out) ?_
        (try simp only [Txt.pick, List.getElem?_cons_succ, List.getElem?_cons_zero])
        go_wp2
        refine Txt.RunPost.mk ?_
        refine Txt.Ty.wpTr_alt ?_ Txt.Ty.wpTr_no
        (try simp only [Txt.pick, List.getElem?_cons_succ, List.getElem?_cons_zero])
        go_wp2_with fail
        refine (Ldg.equal_any _ _ x1.led x.led _ (by rw [Hled.out]; decide) (by rw [Hled0.out]; decide) HSL2.out (sl_nil HSL5.out Hled0.out)).mono ?_
        rw [show Ldg.eqL x1.led x.led = true by rw [Hled.out, Hled0.out]; rfl]
        rintro e y3 ⟨rfl, hb⟩
        have HU3 := Lib.hid (HU2.out.below hb)
        have HS3 := Lib.hid (same_below' HS2.out hb)
        have HV12 := Lib.hid ((hb.block V (Array.getElem?_eq_some_iff.1 HV11.out).1).trans HV11.out)
        have HA12 := Lib.hid ((hb.block A (Array.getElem?_eq_some_iff.1 HA11.out).1).trans HA11.out)
        have HC12 := Lib.hid ((hb.block C (Array.getElem?_eq_some_iff.1 HC11.out).1).trans HC11.out)
        clear hb
        go_wp2
        refine Txt.SegPost.mk (Txt.Ty.Shown.same HS3.out) ?_
        (try simp only [Txt.pick, List.getElem?_cons_succ, List.getElem?_cons_zero])
        go_wp2
        refine Txt.RunPost.mk ?_
        refine Txt.Ty.wpTr_alt ?_ Txt.Ty.wpTr_no
        (try simp only [Txt.pick, List.getElem?_cons_succ, List.getElem?_cons_zero])
        go_wp2_with fail
        refine (ull_number HU3.out).mono ?_
        rw [Hnum.out]
        rintro e w' ⟨rfl, rfl⟩
        go_wp2
        refine Txt.SegPost.mk (Txt.Ty.Shown.same HS3.out) ?_
        (try simp only [Txt.pick, List.getElem?_cons_succ, List.getElem?_cons_zero])
        go_wp2
        refine Txt.RunPost.mk ?_
        refine Txt.Ty.wpTr_alt ?_ Txt.Ty.wpTr_no
        (try simp only [Txt.pick, List.getElem?_cons_succ, List.getElem?_cons_zero])
        go_wp2_with fail
        refine (ull_down HU3.out).mono ?_
        rw [Hdn.out]
        rintro e w' ⟨rfl, rfl⟩
        go_wp2
        refine Txt.SegPost.mk (Txt.Ty.Shown.same HS3.out) ?_
        (try simp only [Txt.pick, List.getElem?_cons_succ, List.getElem?_cons_zero])
        go_wp2
        refine Txt.RunPost.mk ?_
        refine Txt.Ty.wpTr_done (by rfl) ⟨Hini.out _ (fun b hb => hb), trivial⟩ ?_
        have hc0 := HC12.out
        rw [HCC.out] at hc0
        have c_0 : y3.cell? ⟨C, 0, none⟩ = some (.int .i64 c.op) := box_at hc0 rfl
        have c_1 : y3.cell? ⟨C, 1, none⟩ = some (.int .i64 c.mode) := box_at hc0 rfl
        have c_2 : y3.cell? ⟨C, 2, none⟩ = some (.int .i64 c.p.c) := box_at hc0 rfl
        have c_3 : y3.cell? ⟨C, 3, none⟩ = some (.int .i64 c.p.n) := box_at hc0 rfl
        have c_4 : y3.cell? ⟨C, 4, none⟩ = some (.int .i64 c.p.e) := box_at hc0 rfl
        have c_5 : y3.cell? ⟨C, 5, none⟩ = some (.int .i64 c.p.k) := box_at hc0 rfl
        have c_6 : y3.cell? ⟨C, 6, none⟩ = some (.int .i64 c.p.s) := box_at hc0 rfl
        have c_7 : y3.cell? ⟨C, 7, none⟩ = some (.int .i64 c.p.pl) := box_at hc0 rfl
        have c_8 : y3.cell? ⟨C, 8, none⟩ = some (.int .i64 c.p.m) := box_at hc0 rfl
        have c_9 : y3.cell? ⟨C, 9, none⟩ = some (.int .i64 c.ms) := box_at hc0 rfl
        have c_10 : y3.cell? ⟨C, 10, none⟩ = some (.int .i64 c.md) := box_at hc0 rfl
        have c_11 : y3.cell? ⟨C, 11, none⟩ = some (.int .i64 c.mt) := box_at hc0 rfl
        have c_12 : y3.cell? ⟨C, 12, none⟩ = some (.int .i64 c.mq) := box_at hc0 rfl
        have c_13 : y3.cell? ⟨C, 13, none⟩ = some (.int .i64 c.m0) := box_at hc0 rfl
        have c_14 : y3.cell? ⟨C, 14, none⟩ = some (.int .i64 c.m1) := box_at hc0 rfl
        have c_15 : y3.cell? ⟨C, 15, none⟩ = some (.int .i64 c.m2) := box_at hc0 rfl
        have c_16 : y3.cell? ⟨C, 16, none⟩ = some (.int .i64 c.m3) := box_at hc0 rfl
        have c_17 : y3.cell? ⟨C, 17, none⟩ = some (.slice ma c.dl mc) := box_at hc0 rfl
        have c_18 : y3.cell? ⟨C, 18, none⟩ = some (.int .i64 c.a.en) := box_at hc0 rfl
        have c_19 : y3.cell? ⟨C, 19, none⟩ = some (.int .i64 c.a.st) := box_at hc0 rfl
        have c_20 : y3.cell? ⟨C, 20, none⟩ = some (.int .i64 c.a.er) := box_at hc0 rfl
        have c_21 : y3.cell? ⟨C, 21, none⟩ = some (.slice ai c.a.im.length ac) := box_at hc0 rfl
        have c_22 : y3.cell? ⟨C, 22, none⟩ = some (.slice ae c.a.ef.length aec) := box_at hc0 rfl
        have c_23 : y3.cell? ⟨C, 23, none⟩ = some (.int .i64 c.b.en) := box_at hc0 rfl
        have c_24 : y3.cell? ⟨C, 24, none⟩ = some (.int .i64 c.b.st) := box_at hc0 rfl
        have c_25 : y3.cell? ⟨C, 25, none⟩ = some (.int .i64 c.b.er) := box_at hc0 rfl
        have c_26 : y3.cell? ⟨C, 26, none⟩ = some (.slice bi c.b.im.length bc) := box_at hc0 rfl
        have c_27 : y3.cell? ⟨C, 27, none⟩ = some (.slice be c.b.ef.length bec) := box_at hc0 rfl
        have c_28 : y3.cell? ⟨C, 28, none⟩ = some (.bool c.pm) := box_at hc0 rfl
        clear hc0
        have a_0 : y3.cell? ⟨A, 0, none⟩ = some (.int .i64 fa.en) := box_at HA12.out rfl
        have a_1 : y3.cell? ⟨A, 1, none⟩ = some (.int .i64 fa.st) := box_at HA12.out rfl
        have a_2 : y3.cell? ⟨A, 2, none⟩ = some (.int .i64 fa.er) := box_at HA12.out rfl
        have a_3 : y3.cell? ⟨A, 3, none⟩ = some (.slice ja1 fa.im.length ja2) := box_at HA12.out rfl
        have a_4 : y3.cell? ⟨A, 4, none⟩ = some (.slice je1 fa.ef.length je2) := box_at HA12.out rfl
        have p1 : (Value.slice ja1 fa.im.length ja2, fa.im) ∈ (Value.slice a10 im.length c10, im) :: rows2 := List.mem_cons_of_mem _ n1
        have p2 : (Value.slice je1 fa.ef.length je2, fa.ef) ∈ (Value.slice a10 im.length c10, im) :: rows2 := List.mem_cons_of_mem _ n2
        go_wp2_with fail
        refine (ull_finish HU3.out ⟨0, 0, 0, 0, 0, 0, 0⟩ fa fa _ _ _ _ c.ms c.md c.mt c.mq c.m0 c.m1 c.m2 c.m3 _ true Hinst.out (by rw [Hver.out]; decide) hled1 hq1 hq2 hnum1 hatt1 hfal p1 p2 p1 p2).mono ?_
        rintro e w9 ⟨⟨x2, s2, c2, st2, e2⟩, hr, rfl, hU, hB⟩
        have HU13 := Lib.hid hU
        have HV13 := Lib.hid ((hB V (by simp)).trans HV12.out)
        have hgr2 : x2.gr = 2 := by have := congrArg (fun r => r.x.gr) hr; simp only [finU_gr] at this; rw [this, HX1.out]; rfl
        have HR2 := Lib.hid hr
        clear hU hB hr c_0 c_1 c_2 c_3 c_4 c_5 c_6 c_7 c_8 c_9 c_10 c_11 c_12 c_13 c_14 c_15 c_16 c_17 c_18 c_19 c_20 c_21 c_22 c_23 c_24 c_25 c_26 c_27 c_28 a_0 a_1 a_2 a_3 a_4 p1 p2
        go_upto_region 14 with (fail)
        have hb : Below w9.heap.size w9 (w9.alloc (.cells #[.int .i64 c2, .int .i64 st2] 49)) := (Below.refl _ w9).alloc (Nat.le_refl _) _
        obtain ⟨w10, hw10⟩ : ∃ X, X = w9.alloc (.cells #[.int .i64 c2, .int .i64 st2] 49) := ⟨_, rfl⟩
        rw [← hw10] at hb ⊢
        have HU14 := Lib.hid (HU13.out.below hb)
        have HV14 := Lib.hid ((hb.block V (Array.getElem?_eq_some_iff.1 HV13.out).1).trans HV13.out)
        clear hb hw10
        go_wp2_with fail
        refine (ull_restart HU14.out 1 (by omega)).mono ?_
        rintro e w11 ⟨⟨x3, k3, e3⟩, hr3, rfl, hU, hB⟩
        have HU15 := Lib.hid hU
        have HV15 := Lib.hid ((hB V (by simp)).trans HV14.out)
        clear hB hU
        clear hr3
        go_upto_region 15 with (fail)
        have hBl := show ∀ z ∈ [V], ∃ cc e f, w11.heap[z]? = some (.cells cc e f) from fun z hz => by rw [List.mem_singleton.1 hz]; exact ⟨_, _, _, HV15.out⟩
        refine Txt.Ty.wp_tree ([V]) [25] [] [25] [0, 1, 2, 3, 4, 5, 6, 7, 8, 9, 10, 11, 13] (.alt [12, 14, 15, 16, 17] (.alt [18, 19, 20, 21, 22, 24, 25, 26, 27] (.alt [23] (.alt [28, 29, 30, 31, 32, 33] (.done) (.no)) (.no)) (.no)) (.no)) (by kernel_rfl) (by kernel_rfl) (by kernel_rfl) (by kernel_rfl) hBl ?_
        obtain ⟨y0, hy0⟩ : ∃ y, y = w11.drew := ⟨_, rfl⟩
        have HS0 : Hid (Txt.SameB [V] y0 y0) := Lib.hid (by rw [hy0]; exact same_start hBl)
        clear hBl
        rw [← hy0]
        have hd : Below w11.heap.size w11 y0 := by rw [hy0]; exact (Below.refl _ _).drew
        have HU0 := Lib.hid (HU15.out.below hd)
        have HV0 := Lib.hid ((hd.block V (Array.getElem?_eq_some_iff.1 HV15.out).1).trans HV15.out)
        clear hd hy0
        have v_0 : y0.cell? ⟨V, 0, none⟩ = some (.int .i64 c1) := box_at HV0.out rfl
        have v_1 : y0.cell? ⟨V, 1, none⟩ = some (.int .i64 st1) := box_at HV0.out rfl
        (try simp only [Txt.pick, List.getElem?_cons_succ, List.getElem?_cons_zero])
        go_wp2
        refine Txt.RunPost.mk ?_
        refine Txt.Ty.wpTr_alt ?_ Txt.Ty.wpTr_no
        (try simp only [Txt.pick, List.getElem?_cons_succ, List.getElem?_cons_zero])

        go_wp2
        refine Txt.SegPost.mk (Txt.Ty.Shown.same HS0.out) ?_
        (try simp only [Txt.pick, List.getElem?_cons_succ, List.getElem?_cons_zero])
        go_wp2
        refine Txt.RunPost.mk ?_
        refine Txt.Ty.wpTr_alt ?_ Txt.Ty.wpTr_no
        (try simp only [Txt.pick, List.getElem?_cons_succ, List.getElem?_cons_zero])

        go_wp2
        refine Txt.SegPost.mk (Txt.Ty.Shown.same HS0.out) ?_
        (try simp only [Txt.pick, List.getElem?_cons_succ, List.getElem?_cons_zero])
        go_wp2
        refine Txt.RunPost.mk ?_
        refine Txt.Ty.wpTr_alt ?_ Txt.Ty.wpTr_no
        (try simp only [Txt.pick, List.getElem?_cons_succ, List.getElem?_cons_zero])

        go_wp2
        refine Txt.SegPost.mk (Txt.Ty.Shown.same HS0.out) ?_
        (try simp only [Txt.pick, List.getElem?_cons_succ, List.getElem?_cons_zero])
        go_wp2
        refine Txt.RunPost.mk ?_
        refine Txt.Ty.wpTr_alt ?_ Txt.Ty.wpTr_no
        (try simp only [Txt.pick, List.getElem?_cons_succ, List.getElem?_cons_zero])

        go_wp2
        refine Txt.SegPost.mk (Txt.Ty.Shown.same HS0.out) ?_
        (try simp only [Txt.pick, List.getElem?_cons_succ, List.getElem?_cons_zero])
        go_wp2
        refine Txt.RunPost.mk ?_
        refine Txt.Ty.wpTr_done (by rfl) ⟨trivial, trivial⟩ ?_
        go_wp2
        go_ret
        exact ⟨rfl, HL3.out.trans (HU0.out.1.mono HL3.out.size)⟩
      · obtain rfl : e1 = 0 := he
        change ¬ c1 = 0 at hc
        have ec : (c1 == 0) = false := by simp [hc]
        change x1 = downed fx st1 at hx1
        change s1 = fs im at hs1
        have Hdn : Hid (x1.down = true) := Lib.hid (by rw [hx1]; rfl)
        have Hnum : Hid (x1.num = 1) := Lib.hid (by rw [hx1]; rfl)
        have Hled : Hid (x1.led = []) := Lib.hid (by rw [hx1]; rfl)
        have Hled0 : Hid (x.led = []) := Lib.hid (by rw [HX.out]; rfl)
        have Him : Hid (s1.image = im) := Lib.hid (by rw [hs1]; rfl)
        have Hver : Hid (s1.ver = 0) := Lib.hid (by rw [hs1]; rfl)
        have Hinst : Hid (s1.inst = false) := Lib.hid (by rw [hs1]; rfl)
        have hled1 : x1.led.length ≤ 1000 := by rw [Hled.out]; decide
        have hatt1 : 0 ≤ x1.att ∧ x1.att ≤ 1000000 := by rw [hx1]; exact (by decide : 0 ≤ (2 : Int) ∧ (2 : Int) ≤ 1000000)
        have hnum1 : 0 ≤ x1.num ∧ x1.num ≤ 1000000 := by rw [Hnum.out]; decide
        have HX1 := Lib.hid hx1; have HS1x := Lib.hid hs1
        clear hx1 hs1 hc
        have v_0 : w8.cell? ⟨V, 0, none⟩ = some (.int .i64 c1) := box_at HV8.out rfl
        have v_1 : w8.cell? ⟨V, 1, none⟩ = some (.int .i64 st1) := box_at HV8.out rfl
        go_upto_region 11 with (fail)
        clear v_0 v_1
        obtain ⟨bli, q1, q2⟩ := Raw.blocks (HU8.out.bytes n0) (by omega)
        have Hini := Lib.hid q1
        have Hbli := Lib.hid (fun b hb => (q2 b hb).2)
        clear q1 q2
        have hBl := show ∀ z ∈ bli, ∃ cc e f, w8.heap[z]? = some (.cells cc e f) from fun z hz => Hbli.out z hz
        refine Txt.Ty.wp_tree (bli) [4] [] [2, 4] [0, 3, 4] (.alt [1, 2, 5, 6, 7] (.alt [8, 9, 10, 11, 12, 14] (.alt [13] (.alt [15, 16, 17, 18, 19] (.alt [20, 21, 22, 23, 24, 26, 27] (.alt [25, 28, 29] (.done) (.no)) (.no)) (.no)) (.no)) (.no)) (.no)) (by kernel_rfl) (by kernel_rfl) (by kernel_rfl) (by kernel_rfl) hBl ?_
        obtain ⟨y0, hy0⟩ : ∃ y, y = w8.drew := ⟨_, rfl⟩
        have HS0 : Hid (Txt.SameB bli y0 y0) := Lib.hid (by rw [hy0]; exact same_start hBl)
        clear hBl
        rw [← hy0]
        have hd : Below w8.heap.size w8 y0 := by rw [hy0]; exact (Below.refl _ _).drew
        have HU0 := Lib.hid (HU8.out.below hd)
        have hb := hd
        have HV9 := Lib.hid ((hb.block V (Array.getElem?_eq_some_iff.1 HV8.out).1).trans HV8.out)
        have HA9 := Lib.hid ((hb.block A (Array.getElem?_eq_some_iff.1 HA8.out).1).trans HA8.out)
        have HC9 := Lib.hid ((hb.block C (Array.getElem?_eq_some_iff.1 HC8.out).1).trans HC8.out)
        clear hb hd hy0
        have k0 := run_str (HU0.out.bytes n0) 22 5 9 Try.underlying22 Try.underlying5 Try.underlying9
        (try simp only [Txt.pick, List.getElem?_cons_succ, List.getElem?_cons_zero])
        go_wp2
        refine Txt.RunPost.mk ?_
        refine Txt.Ty.wpTr_alt ?_ Txt.Ty.wpTr_no
        (try simp only [Txt.pick, List.getElem?_cons_succ, List.getElem?_cons_zero])
        go_wp2_with fail
        refine (ull_image HU0.out).mono ?_
        rw [Him.out]
        rintro e y1 ⟨a10, c10, rfl, hb, hU⟩
        have HU1 := Lib.hid hU
        have k1 := run_str (hU.bytes (v := .slice a10 im.length c10) (l := im) (by simp)) 22 5 9 Try.underlying22 Try.underlying5 Try.underlying9
        have HS1 := Lib.hid (same_below' HS0.out hb)
        have HV10 := Lib.hid ((hb.block V (Array.getElem?_eq_some_iff.1 HV9.out).1).trans HV9.out)
        have HA10 := Lib.hid ((hb.block A (Array.getElem?_eq_some_iff.1 HA9.out).1).trans HA9.out)
        have HC10 := Lib.hid ((hb.block C (Array.getElem?_eq_some_iff.1 HC9.out).1).trans HC9.out)
        clear hb hU
        go_wp2
        refine Txt.SegPost.mk (Txt.Ty.Shown.same HS1.out) ?_
        (try simp only [Txt.pick, List.getElem?_cons_succ, List.getElem?_cons_zero])
        go_wp2
        refine Txt.RunPost.mk ?_
        refine Txt.Ty.wpTr_alt ?_ Txt.Ty.wpTr_no
        (try simp only [Txt.pick, List.getElem?_cons_succ, List.getElem?_cons_zero])
        go_wp2_with fail
        refine (ull_version HU1.out).mono ?_
        rw [Hver.out]
        rintro e w' ⟨rfl, rfl⟩
        go_wp2
        refine Txt.SegPost.mk (Txt.Ty.Shown.same HS1.out) ?_
        (try simp only [Txt.pick, List.getElem?_cons_succ, List.getElem?_cons_zero])
        go_wp2
        refine Txt.RunPost.mk ?_
        refine Txt.Ty.wpTr_alt ?_ Txt.Ty.wpTr_no
        (try simp only [Txt.pick, List.getElem?_cons_succ, List.getElem?_cons_zero])
        go_wp2_with fail
        refine (ull_ledger HU1.out hled1).mono ?_
        rintro e y2 ⟨la2, lc2, rfl, hb, hsl, hU⟩
        have HU2 := Lib.hid hU
        have HSL2 := Lib.hid hsl
        have HS2 := Lib.hid (same_below' HS1.out hb)
        have HV11 := Lib.hid ((hb.block V (Array.getElem?_eq_some_iff.1 HV10.out).1).trans HV10.out)
        have HA11 := Lib.hid ((hb.block A (Array.getElem?_eq_some_iff.1 HA10.out).1).trans HA10.out)
        have HC11 := Lib.hid ((hb.block C (Array.getElem?_eq_some_iff.1 HC10.out).1).trans HC10.out)
        clear hb hU hsl
        go_wp2
        refine Txt.SegPost.mk (Txt.Ty.Shown.same HS2.out) ?_
        (try simp only [Txt.pick, List.getElem?_cons_succ, List.getElem?_cons_zero])
        go_wp2
        refine Txt.RunPost.mk ?_
        refine Txt.Ty.wpTr_alt ?_ Txt.Ty.wpTr_no
        (try simp only [Txt.pick, List.getElem?_cons_succ, List.getElem?_cons_zero])
        go_wp2_with fail
        refine (Ldg.equal_any _ _ x1.led x.led _ (by rw [Hled.out]; decide) (by rw [Hled0.out]; decide) HSL2.out (sl_nil HSL5.out Hled0.out)).mono ?_
        rw [show Ldg.eqL x1.led x.led = true by rw [Hled.out, Hled0.out]; rfl]
        rintro e y3 ⟨rfl, hb⟩
        have HU3 := Lib.hid (HU2.out.below hb)
        have HS3 := Lib.hid (same_below' HS2.out hb)
        have HV12 := Lib.hid ((hb.block V (Array.getElem?_eq_some_iff.1 HV11.out).1).trans HV11.out)
        have HA12 := Lib.hid ((hb.block A (Array.getElem?_eq_some_iff.1 HA11.out).1).trans HA11.out)
        have HC12 := Lib.hid ((hb.block C (Array.getElem?_eq_some_iff.1 HC11.out).1).trans HC11.out)
        clear hb
        go_wp2
        refine Txt.SegPost.mk (Txt.Ty.Shown.same HS3.out) ?_
        (try simp only [Txt.pick, List.getElem?_cons_succ, List.getElem?_cons_zero])
        go_wp2
        refine Txt.RunPost.mk ?_
        refine Txt.Ty.wpTr_alt ?_ Txt.Ty.wpTr_no
        (try simp only [Txt.pick, List.getElem?_cons_succ, List.getElem?_cons_zero])
        go_wp2_with fail
        refine (ull_number HU3.out).mono ?_
        rw [Hnum.out]
        rintro e w' ⟨rfl, rfl⟩
        go_wp2
        refine Txt.SegPost.mk (Txt.Ty.Shown.same HS3.out) ?_
        (try simp only [Txt.pick, List.getElem?_cons_succ, List.getElem?_cons_zero])
        go_wp2
        refine Txt.RunPost.mk ?_
        refine Txt.Ty.wpTr_alt ?_ Txt.Ty.wpTr_no
        (try simp only [Txt.pick, List.getElem?_cons_succ, List.getElem?_cons_zero])
        go_wp2_with fail
        refine (ull_down HU3.out).mono ?_
        rw [Hdn.out]
        rintro e w' ⟨rfl, rfl⟩
        go_wp2
        refine Txt.SegPost.mk (Txt.Ty.Shown.same HS3.out) ?_
        (try simp only [Txt.pick, List.getElem?_cons_succ, List.getElem?_cons_zero])
        go_wp2
        refine Txt.RunPost.mk ?_
        refine Txt.Ty.wpTr_done (by rfl) ⟨Hini.out _ (fun b hb => hb), trivial⟩ ?_
        have hc0 := HC12.out
        rw [HCC.out] at hc0
        have c_0 : y3.cell? ⟨C, 0, none⟩ = some (.int .i64 c.op) := box_at hc0 rfl
        have c_1 : y3.cell? ⟨C, 1, none⟩ = some (.int .i64 c.mode) := box_at hc0 rfl
        have c_2 : y3.cell? ⟨C, 2, none⟩ = some (.int .i64 c.p.c) := box_at hc0 rfl
        have c_3 : y3.cell? ⟨C, 3, none⟩ = some (.int .i64 c.p.n) := box_at hc0 rfl
        have c_4 : y3.cell? ⟨C, 4, none⟩ = some (.int .i64 c.p.e) := box_at hc0 rfl
        have c_5 : y3.cell? ⟨C, 5, none⟩ = some (.int .i64 c.p.k) := box_at hc0 rfl
        have c_6 : y3.cell? ⟨C, 6, none⟩ = some (.int .i64 c.p.s) := box_at hc0 rfl
        have c_7 : y3.cell? ⟨C, 7, none⟩ = some (.int .i64 c.p.pl) := box_at hc0 rfl
        have c_8 : y3.cell? ⟨C, 8, none⟩ = some (.int .i64 c.p.m) := box_at hc0 rfl
        have c_9 : y3.cell? ⟨C, 9, none⟩ = some (.int .i64 c.ms) := box_at hc0 rfl
        have c_10 : y3.cell? ⟨C, 10, none⟩ = some (.int .i64 c.md) := box_at hc0 rfl
        have c_11 : y3.cell? ⟨C, 11, none⟩ = some (.int .i64 c.mt) := box_at hc0 rfl
        have c_12 : y3.cell? ⟨C, 12, none⟩ = some (.int .i64 c.mq) := box_at hc0 rfl
        have c_13 : y3.cell? ⟨C, 13, none⟩ = some (.int .i64 c.m0) := box_at hc0 rfl
        have c_14 : y3.cell? ⟨C, 14, none⟩ = some (.int .i64 c.m1) := box_at hc0 rfl
        have c_15 : y3.cell? ⟨C, 15, none⟩ = some (.int .i64 c.m2) := box_at hc0 rfl
        have c_16 : y3.cell? ⟨C, 16, none⟩ = some (.int .i64 c.m3) := box_at hc0 rfl
        have c_17 : y3.cell? ⟨C, 17, none⟩ = some (.slice ma c.dl mc) := box_at hc0 rfl
        have c_18 : y3.cell? ⟨C, 18, none⟩ = some (.int .i64 c.a.en) := box_at hc0 rfl
        have c_19 : y3.cell? ⟨C, 19, none⟩ = some (.int .i64 c.a.st) := box_at hc0 rfl
        have c_20 : y3.cell? ⟨C, 20, none⟩ = some (.int .i64 c.a.er) := box_at hc0 rfl
        have c_21 : y3.cell? ⟨C, 21, none⟩ = some (.slice ai c.a.im.length ac) := box_at hc0 rfl
        have c_22 : y3.cell? ⟨C, 22, none⟩ = some (.slice ae c.a.ef.length aec) := box_at hc0 rfl
        have c_23 : y3.cell? ⟨C, 23, none⟩ = some (.int .i64 c.b.en) := box_at hc0 rfl
        have c_24 : y3.cell? ⟨C, 24, none⟩ = some (.int .i64 c.b.st) := box_at hc0 rfl
        have c_25 : y3.cell? ⟨C, 25, none⟩ = some (.int .i64 c.b.er) := box_at hc0 rfl
        have c_26 : y3.cell? ⟨C, 26, none⟩ = some (.slice bi c.b.im.length bc) := box_at hc0 rfl
        have c_27 : y3.cell? ⟨C, 27, none⟩ = some (.slice be c.b.ef.length bec) := box_at hc0 rfl
        have c_28 : y3.cell? ⟨C, 28, none⟩ = some (.bool c.pm) := box_at hc0 rfl
        clear hc0
        have a_0 : y3.cell? ⟨A, 0, none⟩ = some (.int .i64 fa.en) := box_at HA12.out rfl
        have a_1 : y3.cell? ⟨A, 1, none⟩ = some (.int .i64 fa.st) := box_at HA12.out rfl
        have a_2 : y3.cell? ⟨A, 2, none⟩ = some (.int .i64 fa.er) := box_at HA12.out rfl
        have a_3 : y3.cell? ⟨A, 3, none⟩ = some (.slice ja1 fa.im.length ja2) := box_at HA12.out rfl
        have a_4 : y3.cell? ⟨A, 4, none⟩ = some (.slice je1 fa.ef.length je2) := box_at HA12.out rfl
        have p1 : (Value.slice ja1 fa.im.length ja2, fa.im) ∈ (Value.slice a10 im.length c10, im) :: rows2 := List.mem_cons_of_mem _ n1
        have p2 : (Value.slice je1 fa.ef.length je2, fa.ef) ∈ (Value.slice a10 im.length c10, im) :: rows2 := List.mem_cons_of_mem _ n2
        go_wp2_with fail
        refine (ull_finish HU3.out ⟨0, 0, 0, 0, 0, 0, 0⟩ fa fa _ _ _ _ c.ms c.md c.mt c.mq c.m0 c.m1 c.m2 c.m3 _ true Hinst.out (by rw [Hver.out]; decide) hled1 hq1 hq2 hnum1 hatt1 hfal p1 p2 p1 p2).mono ?_
        rintro e w9 ⟨⟨x2, s2, c2, st2, e2⟩, hr, rfl, hU, hB⟩
        have HU13 := Lib.hid hU
        have HV13 := Lib.hid ((hB V (by simp)).trans HV12.out)
        have hgr2 : x2.gr = 2 := by have := congrArg (fun r => r.x.gr) hr; simp only [finU_gr] at this; rw [this, HX1.out]; rfl
        have HR2 := Lib.hid hr
        clear hU hB hr c_0 c_1 c_2 c_3 c_4 c_5 c_6 c_7 c_8 c_9 c_10 c_11 c_12 c_13 c_14 c_15 c_16 c_17 c_18 c_19 c_20 c_21 c_22 c_23 c_24 c_25 c_26 c_27 c_28 a_0 a_1 a_2 a_3 a_4 p1 p2
        go_upto_region 14 with (fail)
        have hb : Below w9.heap.size w9 (w9.alloc (.cells #[.int .i64 c2, .int .i64 st2] 49)) := (Below.refl _ w9).alloc (Nat.le_refl _) _
        obtain ⟨w10, hw10⟩ : ∃ X, X = w9.alloc (.cells #[.int .i64 c2, .int .i64 st2] 49) := ⟨_, rfl⟩
        rw [← hw10] at hb ⊢
        have HU14 := Lib.hid (HU13.out.below hb)
        have HV14 := Lib.hid ((hb.block V (Array.getElem?_eq_some_iff.1 HV13.out).1).trans HV13.out)
        clear hb hw10
        go_wp2_with fail
        refine (ull_restart HU14.out 1 (by omega)).mono ?_
        rintro e w11 ⟨⟨x3, k3, e3⟩, hr3, rfl, hU, hB⟩
        have HU15 := Lib.hid hU
        have HV15 := Lib.hid ((hB V (by simp)).trans HV14.out)
        clear hB hU
        have h2 : (⟨x2, s2, c2, st2, e2⟩ : FR) = ⟨x1, s1, 0, 0, 7⟩ := by rw [HR2.out]; unfold finU; rw [if_pos Hdn.out]
        obtain ⟨rfl, rfl, rfl, rfl, rfl⟩ : x2 = x1 ∧ s2 = s1 ∧ c2 = 0 ∧ st2 = 0 ∧ e2 = 7 := by cases h2; exact ⟨rfl, rfl, rfl, rfl, rfl⟩
        clear h2 HR2
        have h3 : k3 = acnt im.length + 1 ∧ e3 = 0 ∧ x3.i0 = 3 ∧ x3.i1 = 4 ∧ x3.att = 2 ∧ x3.lost = wrap64 (st1 + (acnt im.length + 1)) := by
          rw [HX1.out, HS1x.out] at hr3
          have e : rstU (downed fx st1) (fs im) 1 = (up { downed fx st1 with gr := (downed fx st1).gr + 2, i0 := (downed fx st1).gr + 2 - 1, i1 := (downed fx st1).gr + 2 } (fs im), acnt im.length + 1, 0) := rfl
          rw [e] at hr3
          cases hr3
          exact ⟨rfl, rfl, rfl, rfl, rfl, wrap_lost _ _⟩
        obtain ⟨rfl, rfl, h30, h31, h3a, h3l⟩ := h3
        have H30 := Lib.hid h30; have H31 := Lib.hid h31; have H3A := Lib.hid h3a; have H3L := Lib.hid h3l
        clear hr3 h30 h31 h3a h3l
        go_upto_region 15 with (fail)
        have hBl := show ∀ z ∈ [V], ∃ cc e f, w11.heap[z]? = some (.cells cc e f) from fun z hz => by rw [List.mem_singleton.1 hz]; exact ⟨_, _, _, HV15.out⟩
        refine Txt.Ty.wp_tree ([V]) [25] [] [25] [0, 1, 2, 3, 4, 5, 6, 7, 8, 9, 10, 11, 13] (.alt [12, 14, 15, 16, 17] (.alt [18, 19, 20, 21, 22, 24, 25, 26, 27] (.alt [23] (.alt [28, 29, 30, 31, 32, 33] (.done) (.no)) (.no)) (.no)) (.no)) (by kernel_rfl) (by kernel_rfl) (by kernel_rfl) (by kernel_rfl) hBl ?_
        obtain ⟨y0, hy0⟩ : ∃ y, y = w11.drew := ⟨_, rfl⟩
        have HS0 : Hid (Txt.SameB [V] y0 y0) := Lib.hid (by rw [hy0]; exact same_start hBl)
        clear hBl
        rw [← hy0]
        have hd : Below w11.heap.size w11 y0 := by rw [hy0]; exact (Below.refl _ _).drew
        have HU0 := Lib.hid (HU15.out.below hd)
        have HV0 := Lib.hid ((hd.block V (Array.getElem?_eq_some_iff.1 HV15.out).1).trans HV15.out)
        clear hd hy0
        have hg57 := eg57
        (try simp only [Txt.pick, List.getElem?_cons_succ, List.getElem?_cons_zero])
        go_wp2
        refine Txt.RunPost.mk ?_
        refine Txt.Ty.wpTr_alt ?_ Txt.Ty.wpTr_no
        (try simp only [Txt.pick, List.getElem?_cons_succ, List.getElem?_cons_zero])
        go_wp2_with fail
        refine (ull_inst HU0.out).mono ?_
        rw [H30.out, H31.out]
        rintro e y1 ⟨rfl, hb, hU⟩
        have HU1 := Lib.hid hU
        have HS1 := Lib.hid (same_below' HS0.out hb)
        have HV1 := Lib.hid ((hb.block V (Array.getElem?_eq_some_iff.1 HV0.out).1).trans HV0.out)
        clear hb hU
        have v_0 : y1.cell? ⟨V, 0, none⟩ = some (.int .i64 c1) := box_at HV1.out rfl
        have v_1 : y1.cell? ⟨V, 1, none⟩ = some (.int .i64 st1) := box_at HV1.out rfl
        go_wp2
        refine Txt.SegPost.mk (Txt.Ty.Shown.same HS1.out) ?_
        (try simp only [Txt.pick, List.getElem?_cons_succ, List.getElem?_cons_zero])
        go_wp2
        refine Txt.RunPost.mk ?_
        refine Txt.Ty.wpTr_alt ?_ Txt.Ty.wpTr_no
        (try simp only [Txt.pick, List.getElem?_cons_succ, List.getElem?_cons_zero])
        go_wp2_with fail
        refine (ull_attempt HU1.out).mono ?_
        rw [H3A.out]
        rintro e w' ⟨rfl, rfl⟩
        go_wp2
        refine Txt.SegPost.mk (Txt.Ty.Shown.same HS1.out) ?_
        (try simp only [Txt.pick, List.getElem?_cons_succ, List.getElem?_cons_zero])
        go_wp2
        refine Txt.RunPost.mk ?_
        refine Txt.Ty.wpTr_alt ?_ Txt.Ty.wpTr_no
        (try simp only [Txt.pick, List.getElem?_cons_succ, List.getElem?_cons_zero])
        go_wp2_with fail
        refine (ull_lost HU1.out).mono ?_
        rw [H3L.out]
        rintro e w' ⟨rfl, rfl⟩
        go_wp2
        refine Txt.SegPost.mk (Txt.Ty.Shown.same HS1.out) ?_
        (try simp only [Txt.pick, List.getElem?_cons_succ, List.getElem?_cons_zero])
        go_wp2
        refine Txt.RunPost.mk ?_
        refine Txt.Ty.wpTr_alt ?_ Txt.Ty.wpTr_no
        (try simp only [Txt.pick, List.getElem?_cons_succ, List.getElem?_cons_zero])
        go_wp2_with fail
        refine (restart_any im.length (by omega) (by omega) _).mono ?_
        rintro e w' ⟨rfl, rfl⟩
        go_wp2
        refine Txt.SegPost.mk (Txt.Ty.Shown.same HS1.out) ?_
        (try simp only [Txt.pick, List.getElem?_cons_succ, List.getElem?_cons_zero])
        go_wp2
        refine Txt.RunPost.mk ?_
        refine Txt.Ty.wpTr_done (by rfl) ⟨.head _, trivial⟩ ?_
        go_wp2
        go_ret
        exact ⟨rfl, HL3.out.trans (HU1.out.1.mono HL3.out.size)⟩
end Go.Proofs.Ytfepaminfjamfaa
