/- names: Step -/
import Derived.Test.YtfgbkfifiioeiaaNh
import Derived.Deep.CutRange
namespace Go.Nm
open Go Go.RowKit Go.Bs Go.Cl Go.Rw
/-- several cells of a block are set -/
def puts (w : World) (g : Nat) : List (Nat × Value) → World
  | [] => w
  | p :: l => puts (w.setCell ⟨g, p.1, none⟩ p.2) g l
theorem puts_at : ∀ (l : List (Nat × Value)) {w : World} {g : Nat} {xs : Array Value} {t : TypeId}, w.heap[g]? = some (.cells xs t (0, 0)) →
    (puts w g l).heap[g]? = some (.cells (l.foldl (fun xs p => xs.setIfInBounds p.1 p.2) xs) t (0, 0)) ∧ Keep [g] w (puts w g l)
  | [], w, g, xs, t, h => ⟨h, Keep.refl _ _⟩
  | p :: l, w, g, xs, t, h => by
    have h1 : (w.setCell ⟨g, p.1, none⟩ p.2).heap[g]? = some (.cells (xs.setIfInBounds p.1 p.2) t (0, 0)) := by
      simp only [World.setCell, Array.getElem?_modify]; simp [h]
    have hk : Keep [g] w (w.setCell ⟨g, p.1, none⟩ p.2) := (Keep.refl [g] w).setCell (by simp) _
    obtain ⟨h2, h3⟩ := puts_at l h1
    exact ⟨h2, hk.trans h3 (fun f hf => .inl hf)⟩
/-- a state's row is not the block of a reply -/
theorem SlN.keepR {w w' : World} {R : Nat} {v : Value} {l : List Nm} {cs : Array Value} (h : SlN w v l) (hR : w.heap[R]? = some (.cells cs 40 (0, 0))) (hk : Keep [R] w w') (h0 : ∀ (j : Nat) (s : ByteArray), cs[j]? ≠ some (.string s) := by intro j s; rcases j with _ | _ | _ | _ | _ | _ | _ | _ | _ | j <;> simp) : SlN w' v l := by
  obtain ⟨h1, h2, a, cap, rfl, h3, h4, h5⟩ := h
  refine Raw.keep (F' := []) (F := [R]) ⟨h1, h2, a, cap, rfl, h3, h4, fun hl => ?_⟩ hk (fun f hf => .inl hf) (fun f hf => by cases hf)
  obtain ⟨b, off, rfl, q1, q2, q3⟩ := h5 hl
  refine ⟨b, off, rfl, q1, fun hm => ?_, q3⟩
  rw [List.mem_singleton] at hm
  subst hm
  obtain ⟨p, ps, rfl⟩ : ∃ p ps, l = p :: ps := by cases l with
    | nil => simp at hl
    | cons p ps => exact ⟨p, ps, rfl⟩
  have c0 := q3 0 (.string (strOf p.s)) (by simp [encN])
  rw [World.cell?, hR] at c0
  exact h0 _ _ c0
end Go.Nm
namespace Go.Proofs.Ytfgbkfifiioeiaa
open Go.RowKit Go.Bs Go.Cl Go.Rw Go.Nm Go.Wi
@[go_sem] theorem eq38 (a b c d a' b' c' d' : Int) (w : World) : (Op.equalIn 10000 38 (.agg #[.int .i64 a, .int .i64 b, .int .i64 c, .int .i64 d]) (.agg #[.int .i64 a', .int .i64 b', .int .i64 c', .int .i64 d'])).run Try.prog w = .ok (a == a' && (b == b' && (c == c' && d == d'))) w := by
  have p0 : ∀ (a b c d : Int), (part 3 #[.int .i64 a, .int .i64 b, .int .i64 c, .int .i64 d] 0).run Try.prog w = .ok (.int .i64 a) w := fun a b c d => by simp [part, isAgg, run_underlying Try.underlying3]
  have p1 : ∀ (a b c d : Int), (part 3 #[.int .i64 a, .int .i64 b, .int .i64 c, .int .i64 d] 1).run Try.prog w = .ok (.int .i64 b) w := fun a b c d => by simp [part, isAgg, run_underlying Try.underlying3]
  have p2 : ∀ (a b c d : Int), (part 3 #[.int .i64 a, .int .i64 b, .int .i64 c, .int .i64 d] 2).run Try.prog w = .ok (.int .i64 c) w := fun a b c d => by simp [part, isAgg, run_underlying Try.underlying3]
  have p3 : ∀ (a b c d : Int), (part 3 #[.int .i64 a, .int .i64 b, .int .i64 c, .int .i64 d] 3).run Try.prog w = .ok (.int .i64 d) w := fun a b c d => by simp [part, isAgg, run_underlying Try.underlying3]
  have hs : (sizeOf 3).run Try.prog w = .ok 1 w := by simp [Try.sizeOf3]
  rw [Op.equalIn]
  simp only [Sem.run_bind, run_underlying Try.underlying38, Result.andThen_ok, Std.Legacy.Range.forIn_eq_forIn_range', Std.Legacy.Range.size, Nat.sub_zero, Nat.add_sub_cancel, Nat.div_one]
  simp only [hs, Result.andThen_ok]
  simp only [show List.range' 0 4 1 = [0, 1, 2, 3] from rfl, List.forIn_cons, List.forIn_nil, Sem.run_bind, Nat.mul_one, p0, p1, p2, p3, Result.andThen_ok, run_equalIn_int w _ 3 .i64 .i64 _ _ Try.underlying3]
  cases h1 : (a == a') <;> cases h2 : (b == b') <;> cases h3 : (c == c') <;> cases h4 : (d == d') <;> simp [h1, h2, h3, h4, p1, p2, p3, run_equalIn_int w _ 3 .i64 .i64 _ _ Try.underlying3]
theorem eg38 : Try.prog.eqGuardType Try.prog.depth 38 = false := by kernel_rfl
theorem stepB_bad {b : List UInt8} (h : decL b = ([], 4)) (ms md mk m0 m1 m2 m3 : Int) (d : List UInt8) : stepB b ms md mk m0 m1 m2 m3 d = .error 4 := by unfold stepB; rw [h]; rfl
theorem stepB_dst {b : List UInt8} {X : List Nm} (h : decL b = (X, 0)) {ms md mk m0 m1 m2 m3 : Int} {d : List UInt8} (hm : md ≠ 2) : stepB b ms md mk m0 m1 m2 m3 d = .error 23 := by unfold stepB stepN; rw [h]; simp [hm]
theorem stepB_ping {b : List UInt8} {X : List Nm} (h : decL b = (X, 0)) {ms mk m0 m1 m2 m3 : Int} {d : List UInt8} (hp : pingOK ms mk m1 m2 m3 d.length) : stepB b ms 2 mk m0 m1 m2 m3 d = .ok (X, ⟨7, m0, 0, 0, 0⟩) := by unfold stepB stepN; rw [h]; simp [hp]
theorem stepB_call {b : List UInt8} {X : List Nm} (h : decL b = (X, 0)) {ms mk m0 m1 m2 m3 : Int} {d : List UInt8} (hn : ¬ pingOK ms mk m1 m2 m3 d.length) (hp : callOK ms mk m0 m1 m2 m3 d.length) : stepB b ms 2 mk m0 m1 m2 m3 d = .ok ((doN X m0 d ms).1, ⟨27, (doN X m0 d ms).2.2, (doN X m0 d ms).2.1, 0, 0⟩) := by unfold stepB stepN; rw [h]; simp [hn, hp]
theorem stepB_no {b : List UInt8} {X : List Nm} (h : decL b = (X, 0)) {ms mk m0 m1 m2 m3 : Int} {d : List UInt8} (hn : ¬ pingOK ms mk m1 m2 m3 d.length) (hp : ¬ callOK ms mk m0 m1 m2 m3 d.length) : stepB b ms 2 mk m0 m1 m2 m3 d = .error 23 := by unfold stepB stepN; rw [h]; simp [hn, hp]
set_option maxRecDepth 100000 in
set_option maxHeartbeats 8000000 in
theorem step_any (iv : Value) (b : List UInt8) (ms md mk mq m0 m1 m2 m3 : Int) (da : Option Addr) (dc : Nat) (d : List UInt8) (w : World) (hI : Bytes [] w iv b) (hbl : b.length ≤ 1000000) (hD : Bytes [] w (.slice da d.length dc) d) :
    Calls Try.prog 18 #[iv, .agg #[.int .i64 ms, .int .i64 md, .int .i64 mk, .int .i64 mq, .int .i64 m0, .int .i64 m1, .int .i64 m2, .int .i64 m3, .slice da d.length dc]] w (RetSt (stepB b ms md mk m0 m1 m2 m3 d) ms w) := by
  obtain ⟨ia, ic, rfl⟩ := Raw.slice hI
  obtain ⟨SB, hSB⟩ : ∃ SB, SB = stepB b ms md mk m0 m1 m2 m3 d := ⟨_, rfl⟩
  rw [← hSB]
  have HSB := Lib.hid hSB
  clear hSB
  obtain ⟨M, hM⟩ : ∃ M, M = w.heap.size := ⟨_, rfl⟩
  obtain ⟨w1, hw1⟩ : ∃ W, W = w.alloc (.cells #[.int .i64 ms, .int .i64 md, .int .i64 mk, .int .i64 mq, .int .i64 m0, .int .i64 m1, .int .i64 m2, .int .i64 m3, .slice da d.length dc] 40) := ⟨_, rfl⟩
  have HW := Lib.hid hw1
  have hb1 : Below w.heap.size w w1 := by rw [hw1]; exact (Below.refl _ w).alloc (Nat.le_refl _) _
  have HM1 : Hid (w1.heap[M]? = some (.cells #[.int .i64 ms, .int .i64 md, .int .i64 mk, .int .i64 mq, .int .i64 m0, .int .i64 m1, .int .i64 m2, .int .i64 m3, .slice da d.length dc] 40 (0, 0))) := Lib.hid (by rw [hw1, hM]; exact heap_alloc_new w _)
  have HI1 := Lib.hid (Raw.below hI hb1); have HD1 := Lib.hid (Raw.below hD hb1)
  have hMw : w.heap.size ≤ M := by omega
  clear hw1 hI hD
  go_enter Try.func18, Try.ntmps18
  go_upto_region 1 with (fail)
  rw [← HW.out, ← hM]
  clear HW hM
  go_wp2_with fail
  refine (decode_any _ b _ HI1.out hbl).mono ?_
  have hdc := decL_cases b
  obtain ⟨Y, hY⟩ : ∃ Y, decL b = Y := ⟨_, rfl⟩
  rw [hY] at hdc ⊢
  rintro e w2 ⟨v2, rfl, hs2, hb2⟩
  have bel2 := hb1.trans (hb2.mono hb1.size)
  have HM2 := Lib.hid ((hb2.block M (Array.getElem?_eq_some_iff.1 HM1.out).1).trans HM1.out)
  have HD2 := Lib.hid (Raw.below HD1.out hb2)
  clear hb1 hb2 HM1 HD1 HI1
  rcases hdc with ⟨hv, h0⟩ | hbad
  rotate_left
  · subst hbad
    have HE := Lib.hid (HSB.out.trans (stepB_bad hY ms md mk m0 m1 m2 m3 d))
    obtain ⟨a2, c2, rfl⟩ := Raw.slice hs2
    clear hY hs2
    go_wp2
    go_ret3
    rw [HE.out]
    exact ⟨rfl, bel2⟩
  obtain ⟨X, ee⟩ := Y
  obtain rfl : ee = 0 := h0
  obtain ⟨a2, c2, rfl⟩ := Raw.slice hs2
  have HV := Lib.hid hv; have HY := Lib.hid hY; have HS2 := Lib.hid hs2
  have hXl := validN_len hv
  simp only at hXl
  clear hv hY hs2
  have m_0 : w2.cell? ⟨M, 0, none⟩ = some (.int .i64 ms) := box_at HM2.out rfl
  have m_1 : w2.cell? ⟨M, 1, none⟩ = some (.int .i64 md) := box_at HM2.out rfl
  have m_2 : w2.cell? ⟨M, 2, none⟩ = some (.int .i64 mk) := box_at HM2.out rfl
  have m_3 : w2.cell? ⟨M, 3, none⟩ = some (.int .i64 mq) := box_at HM2.out rfl
  have m_4 : w2.cell? ⟨M, 4, none⟩ = some (.int .i64 m0) := box_at HM2.out rfl
  have m_5 : w2.cell? ⟨M, 5, none⟩ = some (.int .i64 m1) := box_at HM2.out rfl
  have m_6 : w2.cell? ⟨M, 6, none⟩ = some (.int .i64 m2) := box_at HM2.out rfl
  have m_7 : w2.cell? ⟨M, 7, none⟩ = some (.int .i64 m3) := box_at HM2.out rfl
  have m_8 : w2.cell? ⟨M, 8, none⟩ = some (.slice da d.length dc) := box_at HM2.out rfl
  have hMl : M < w2.heap.size := (Array.getElem?_eq_some_iff.1 HM2.out).1
  go_upto_region 7 with (fail)
  clear hMl
  obtain ⟨R, hR⟩ : ∃ R, R = w2.heap.size := ⟨_, rfl⟩
  obtain ⟨w3, hw3⟩ : ∃ W, W = w2.alloc (.cells #[.int .i64 0, .int .i64 ms, .int .i64 0, .int .i64 0, .int .i64 0, .int .i64 0, .int .i64 0, .int .i64 0, .slice none 0 0] 40) := ⟨_, rfl⟩
  rw [← hw3, ← hR]
  have hws : w3.heap.size = R + 1 := by rw [hw3, hR]; simp
  obtain ⟨A, hA'⟩ : ∃ A, A = R + 1 := ⟨_, rfl⟩
  have hA : A = w3.heap.size := by omega
  have HA' := Lib.hid hA'
  obtain ⟨w4, hw4⟩ : ∃ W, W = w3.alloc (.cells #[.int .i64 m0, .int .i64 m1, .int .i64 m2, .int .i64 m3] 38) := ⟨_, rfl⟩
  have hb3 : Below w2.heap.size w2 w3 := by rw [hw3]; exact (Below.refl _ w2).alloc (Nat.le_refl _) _
  have hb4 : Below w3.heap.size w3 w4 := by rw [hw4]; exact (Below.refl _ w3).alloc (Nat.le_refl _) _
  have hRl : R < w3.heap.size := by rw [hw3, hR]; simp
  have HR4 : Hid (w4.heap[R]? = some (.cells #[.int .i64 0, .int .i64 ms, .int .i64 0, .int .i64 0, .int .i64 0, .int .i64 0, .int .i64 0, .int .i64 0, .slice none 0 0] 40 (0, 0))) := Lib.hid ((hb4.block R hRl).trans (by rw [hw3, hR]; exact heap_alloc_new w2 _))
  have HA4 : Hid (w4.heap[A]? = some (.cells #[.int .i64 m0, .int .i64 m1, .int .i64 m2, .int .i64 m3] 38 (0, 0))) := Lib.hid (by rw [hw4, hA]; exact heap_alloc_new w3 _)
  have hb24 := hb3.trans (hb4.mono hb3.size)
  have bel4 := bel2.trans (hb24.mono bel2.size)
  have HM4 := Lib.hid ((hb24.block M (Array.getElem?_eq_some_iff.1 HM2.out).1).trans HM2.out)
  have HD4 := Lib.hid (Raw.below HD2.out hb24)
  have HS4 := Lib.hid (HS2.out.below hb24)
  have hRw : w.heap.size ≤ R := by rw [hR]; exact bel2.size
  have hAw : w.heap.size ≤ A := by rw [hA]; exact Nat.le_trans bel2.size hb3.size
  have hRA : R ≠ A := by omega
  rw [← HA'.out]
  (try rw [← hw4])
  clear hws hA' HA'
  clear hb3 hb4 hb24 hw3 hw4 hR hA hRl HM2 HD2 HS2 m_0 m_1 m_2 m_3 m_4 m_5 m_6 m_7 m_8
  have m_0 : w4.cell? ⟨M, 0, none⟩ = some (.int .i64 ms) := box_at HM4.out rfl
  have m_1 : w4.cell? ⟨M, 1, none⟩ = some (.int .i64 md) := box_at HM4.out rfl
  have m_2 : w4.cell? ⟨M, 2, none⟩ = some (.int .i64 mk) := box_at HM4.out rfl
  have m_3 : w4.cell? ⟨M, 3, none⟩ = some (.int .i64 mq) := box_at HM4.out rfl
  have m_4 : w4.cell? ⟨M, 4, none⟩ = some (.int .i64 m0) := box_at HM4.out rfl
  have m_5 : w4.cell? ⟨M, 5, none⟩ = some (.int .i64 m1) := box_at HM4.out rfl
  have m_6 : w4.cell? ⟨M, 6, none⟩ = some (.int .i64 m2) := box_at HM4.out rfl
  have m_7 : w4.cell? ⟨M, 7, none⟩ = some (.int .i64 m3) := box_at HM4.out rfl
  have m_8 : w4.cell? ⟨M, 8, none⟩ = some (.slice da d.length dc) := box_at HM4.out rfl
  by_cases hmd : md = 2
  rotate_left
  · have HE := Lib.hid (HSB.out.trans (stepB_dst HY.out (ms := ms) (mk := mk) (m0 := m0) (m1 := m1) (m2 := m2) (m3 := m3) (d := d) hmd))
    have e1 : (md != 2) = true := by simp [hmd]
    have e1' : (md == 2) = false := by simp [hmd]
    clear hmd
    go_wp2
    go_ret3
    rw [HE.out]
    exact ⟨rfl, bel4⟩
  subst hmd
  have a_0 : w4.cell? ⟨A, 0, none⟩ = some (.int .i64 m0) := box_at HA4.out rfl
  have a_1 : w4.cell? ⟨A, 1, none⟩ = some (.int .i64 m1) := box_at HA4.out rfl
  have a_2 : w4.cell? ⟨A, 2, none⟩ = some (.int .i64 m2) := box_at HA4.out rfl
  have a_3 : w4.cell? ⟨A, 3, none⟩ = some (.int .i64 m3) := box_at HA4.out rfl
  have hg38 := eg38
  by_cases hp : pingOK ms mk m1 m2 m3 d.length
  · have HE := Lib.hid (HSB.out.trans (stepB_ping HY.out (m0 := m0) hp))
    obtain ⟨rfl, rfl, ⟨rfl, rfl, rfl⟩, hd0⟩ := hp
    have hd1 : ((d.length : Nat) : Int) = 0 := by omega
    clear hd0
    go_upto_region 10 with (fail)
    clear m_0 m_1 m_2 m_3 m_4 m_5 m_6 m_7 m_8 a_0 a_1 a_2 a_3
    have hBl := show ∀ q ∈ [A], ∃ cc e f, w4.heap[q]? = some (.cells cc e f) from fun q hq => by rw [List.mem_singleton.1 hq]; exact ⟨_, _, _, HA4.out⟩
    refine Txt.Ty.wp_tree ([A]) [0] [4] [0] [0, 1] (.alt [2, 3] (.alt [4] (.done) (.no)) (.no)) (by kernel_rfl) (by kernel_rfl) (by kernel_rfl) (by kernel_rfl) hBl ?_
    obtain ⟨y0, hy0⟩ : ∃ y, y = w4.drew := ⟨_, rfl⟩
    have HSB0 : Hid (Txt.SameB [A] y0 y0) := Lib.hid (by rw [hy0]; exact same_start hBl)
    clear hBl
    rw [← hy0]
    have hd : Below w4.heap.size w4 y0 := by rw [hy0]; exact (Below.refl _ _).drew
    have bel5 := bel4.trans (hd.mono bel4.size)
    have HS5 := Lib.hid (HS4.out.below hd)
    have hr := (hd.block R (Array.getElem?_eq_some_iff.1 HR4.out).1).trans HR4.out
    have HR5 := Lib.hid hr
    have ha := (hd.block A (Array.getElem?_eq_some_iff.1 HA4.out).1).trans HA4.out
    have a_0 : y0.cell? ⟨A, 0, none⟩ = some (.int .i64 m0) := box_at ha rfl
    have a_1 : y0.cell? ⟨A, 1, none⟩ = some (.int .i64 0) := box_at ha rfl
    have a_2 : y0.cell? ⟨A, 2, none⟩ = some (.int .i64 0) := box_at ha rfl
    have a_3 : y0.cell? ⟨A, 3, none⟩ = some (.int .i64 0) := box_at ha rfl
    have r_0 : y0.cell? ⟨R, 0, none⟩ = some (.int .i64 0) := box_at hr rfl
    have r_1 : y0.cell? ⟨R, 1, none⟩ = some (.int .i64 1) := box_at hr rfl
    have r_2 : y0.cell? ⟨R, 2, none⟩ = some (.int .i64 0) := box_at hr rfl
    have r_3 : y0.cell? ⟨R, 3, none⟩ = some (.int .i64 0) := box_at hr rfl
    have r_4 : y0.cell? ⟨R, 4, none⟩ = some (.int .i64 0) := box_at hr rfl
    have r_5 : y0.cell? ⟨R, 5, none⟩ = some (.int .i64 0) := box_at hr rfl
    have r_6 : y0.cell? ⟨R, 6, none⟩ = some (.int .i64 0) := box_at hr rfl
    have r_7 : y0.cell? ⟨R, 7, none⟩ = some (.int .i64 0) := box_at hr rfl
    have r_8 : y0.cell? ⟨R, 8, none⟩ = some (.slice none 0 0) := box_at hr rfl
    have f_0 := box_free hr 0
    have f_1 := box_free hr 1
    have f_2 := box_free hr 2
    have f_3 := box_free hr 3
    have f_4 := box_free hr 4
    have f_5 := box_free hr 5
    have f_6 := box_free hr 6
    have f_7 := box_free hr 7
    have f_8 := box_free hr 8
    clear hr ha hd hy0
    (try simp only [Txt.pick, List.getElem?_cons_succ, List.getElem?_cons_zero])
    go_wp2
    refine Txt.RunPost.mk ?_
    refine Txt.Ty.wpTr_alt ?_ Txt.Ty.wpTr_no
    (try simp only [Txt.pick, List.getElem?_cons_succ, List.getElem?_cons_zero])
    go_wp2
    clear r_0 r_1 r_2 r_3 r_4 r_5 r_6 r_7 r_8 f_0 f_1 f_2 f_3 f_4 f_5 f_6 f_7 f_8
    obtain ⟨y1, hN⟩ : ∃ X, X = (y0.setCell ⟨R, 2, none⟩ (.int .i64 7)) := ⟨_, rfl⟩
    rw [← hN]
    obtain ⟨hNb, hNk⟩ := puts_at [(2, .int .i64 7)] HR5.out
    have hNe : puts y0 R [(2, .int .i64 7)] = y1 := hN.symm
    rw [hNe] at hNb hNk
    have HR6 : Hid (y1.heap[R]? = some (.cells #[.int .i64 0, .int .i64 1, .int .i64 7, .int .i64 0, .int .i64 0, .int .i64 0, .int .i64 0, .int .i64 0, .slice none 0 0] 40 (0, 0))) := Lib.hid hNb
    have bel6 := bel5.trans (hNk.below bel5.size (fun f hf => by rw [List.mem_singleton.1 hf]; exact hRw))
    have HS6 := Lib.hid (SlN.keepR HS5.out HR5.out hNk)
    have HSB1 := Lib.hid (same_keep HSB0.out hNk (fun q hq hm => by rw [List.mem_singleton] at hq hm; omega))
    clear hN hNb hNk hNe
    have r_0 : y1.cell? ⟨R, 0, none⟩ = some (.int .i64 0) := box_at HR6.out rfl
    have r_1 : y1.cell? ⟨R, 1, none⟩ = some (.int .i64 1) := box_at HR6.out rfl
    have r_2 : y1.cell? ⟨R, 2, none⟩ = some (.int .i64 7) := box_at HR6.out rfl
    have r_3 : y1.cell? ⟨R, 3, none⟩ = some (.int .i64 0) := box_at HR6.out rfl
    have r_4 : y1.cell? ⟨R, 4, none⟩ = some (.int .i64 0) := box_at HR6.out rfl
    have r_5 : y1.cell? ⟨R, 5, none⟩ = some (.int .i64 0) := box_at HR6.out rfl
    have r_6 : y1.cell? ⟨R, 6, none⟩ = some (.int .i64 0) := box_at HR6.out rfl
    have r_7 : y1.cell? ⟨R, 7, none⟩ = some (.int .i64 0) := box_at HR6.out rfl
    have r_8 : y1.cell? ⟨R, 8, none⟩ = some (.slice none 0 0) := box_at HR6.out rfl
    have f_0 := box_free HR6.out 0
    have f_1 := box_free HR6.out 1
    have f_2 := box_free HR6.out 2
    have f_3 := box_free HR6.out 3
    have f_4 := box_free HR6.out 4
    have f_5 := box_free HR6.out 5
    have f_6 := box_free HR6.out 6
    have f_7 := box_free HR6.out 7
    have f_8 := box_free HR6.out 8
    go_wp2
    refine Txt.SegPost.mk (Txt.Ty.Shown.same HSB1.out) ?_
    (try simp only [Txt.pick, List.getElem?_cons_succ, List.getElem?_cons_zero])
    go_wp2
    refine Txt.RunPost.mk ?_
    refine Txt.Ty.wpTr_alt ?_ Txt.Ty.wpTr_no
    (try simp only [Txt.pick, List.getElem?_cons_succ, List.getElem?_cons_zero])
    go_wp2
    clear r_0 r_1 r_2 r_3 r_4 r_5 r_6 r_7 r_8 f_0 f_1 f_2 f_3 f_4 f_5 f_6 f_7 f_8
    obtain ⟨y2, hN⟩ : ∃ X, X = ((((y1.setCell ⟨R, 4, none⟩ (.int .i64 m0)).setCell ⟨R, 5, none⟩ (.int .i64 0)).setCell ⟨R, 6, none⟩ (.int .i64 0)).setCell ⟨R, 7, none⟩ (.int .i64 0)) := ⟨_, rfl⟩
    rw [← hN]
    obtain ⟨hNb, hNk⟩ := puts_at [(4, .int .i64 m0), (5, .int .i64 0), (6, .int .i64 0), (7, .int .i64 0)] HR6.out
    have hNe : puts y1 R [(4, .int .i64 m0), (5, .int .i64 0), (6, .int .i64 0), (7, .int .i64 0)] = y2 := hN.symm
    rw [hNe] at hNb hNk
    have HR7 : Hid (y2.heap[R]? = some (.cells #[.int .i64 0, .int .i64 1, .int .i64 7, .int .i64 0, .int .i64 m0, .int .i64 0, .int .i64 0, .int .i64 0, .slice none 0 0] 40 (0, 0))) := Lib.hid hNb
    have bel7 := bel6.trans (hNk.below bel6.size (fun f hf => by rw [List.mem_singleton.1 hf]; exact hRw))
    have HS7 := Lib.hid (SlN.keepR HS6.out HR6.out hNk)
    clear hN hNb hNk hNe
    go_wp2
    refine Txt.SegPost.mk (Txt.Ty.Shown.last rfl) ?_
    (try simp only [Txt.pick, List.getElem?_cons_succ, List.getElem?_cons_zero])
    go_wp2
    refine Txt.RunPost.mk ?_
    refine Txt.Ty.wpTr_done (by rfl) ⟨.head _, trivial⟩ ?_
    go_upto_region 15 with (fail)
    have hBl := show ∀ q ∈ [R], ∃ cc e f, y2.heap[q]? = some (.cells cc e f) from fun q hq => by rw [List.mem_singleton.1 hq]; exact ⟨_, _, _, HR7.out⟩
    refine Txt.Ty.wp_tree [R] [2] [] [2] [0, 2, 3] (.alt [1, 5] (.alt [4, 6, 7] (.done) (.no)) (.alt [4] (.alt [1, 5, 6, 7] (.done) (.no)) (.no))) (by kernel_rfl) (by kernel_rfl) (by kernel_rfl) (by kernel_rfl) hBl ?_
    obtain ⟨z0, hz0⟩ : ∃ y, y = y2.drew := ⟨_, rfl⟩
    have HS0 : Hid (Txt.SameB [R] z0 z0) := Lib.hid (by rw [hz0]; exact same_start hBl)
    clear hBl
    rw [← hz0]
    have hd : Below y2.heap.size y2 z0 := by rw [hz0]; exact (Below.refl _ _).drew
    have bel0 := bel7.trans (hd.mono bel7.size)
    have HSz0 := Lib.hid ((HS7.out).below hd)
    have hr := (hd.block R (Array.getElem?_eq_some_iff.1 HR7.out).1).trans HR7.out
    have r_0 : z0.cell? ⟨R, 0, none⟩ = some (.int .i64 0) := box_at hr rfl
    have r_1 : z0.cell? ⟨R, 1, none⟩ = some (.int .i64 1) := box_at hr rfl
    have r_2 : z0.cell? ⟨R, 2, none⟩ = some (.int .i64 7) := box_at hr rfl
    have r_3 : z0.cell? ⟨R, 3, none⟩ = some (.int .i64 0) := box_at hr rfl
    have r_4 : z0.cell? ⟨R, 4, none⟩ = some (.int .i64 m0) := box_at hr rfl
    have r_5 : z0.cell? ⟨R, 5, none⟩ = some (.int .i64 0) := box_at hr rfl
    have r_6 : z0.cell? ⟨R, 6, none⟩ = some (.int .i64 0) := box_at hr rfl
    have r_7 : z0.cell? ⟨R, 7, none⟩ = some (.int .i64 0) := box_at hr rfl
    have r_8 : z0.cell? ⟨R, 8, none⟩ = some (.slice none 0 0) := box_at hr rfl
    clear hr hd hz0
    (try simp only [Txt.pick, List.getElem?_cons_succ, List.getElem?_cons_zero])
    go_wp2
    refine Txt.RunPost.mk ?_
    refine Txt.Ty.wpTr_alt ?_ (Txt.Ty.wpTr_alt ?_ Txt.Ty.wpTr_no)
    · (try simp only [Txt.pick, List.getElem?_cons_succ, List.getElem?_cons_zero])
      go_wp2_with fail
      refine (encode_any _ _ _ (by omega) HSz0.out (valid_fits HV.out)).mono ?_
      rintro e z1 ⟨ev, rfl, hrow, hb⟩
      have bel1 := bel0.trans (hb.mono bel0.size)
      have HROW1 := Lib.hid (own_base hrow bel0.size)
      have HS1 := Lib.hid (same_below' HS0.out hb)
      obtain ⟨ea, ec, rfl⟩ := own_slice hrow
      clear hb hrow
      go_wp2
      refine Txt.SegPost.mk (Txt.Ty.Shown.same HS1.out) ?_
      (try simp only [Txt.pick, List.getElem?_cons_succ, List.getElem?_cons_zero])
      go_wp2
      refine Txt.RunPost.mk ?_
      refine Txt.Ty.wpTr_alt ?_ Txt.Ty.wpTr_no
      (try simp only [Txt.pick, List.getElem?_cons_succ, List.getElem?_cons_zero])
      go_wp2
      obtain ⟨E, hE⟩ : ∃ E, E = z1.heap.size := ⟨_, rfl⟩
      obtain ⟨y2, hw⟩ : ∃ X, X = z1.alloc (.cells #[.int .i64 1, .int .i64 0, .int .i64 0, .int .i64 0, .int .i64 0, .int .i64 0, .int .i64 1, .int .i64 7, .int .i64 0, .int .i64 m0, .int .i64 0, .int .i64 0, .int .i64 0, .slice none 0 0, .slice none 0 0] 78) := ⟨_, rfl⟩
      rw [← hw, ← hE]
      have hb : Below z1.heap.size z1 y2 := by rw [hw]; exact (Below.refl _ _).alloc (Nat.le_refl _) _
      have HEF2 : Hid (y2.heap[E]? = some (.cells #[.int .i64 1, .int .i64 0, .int .i64 0, .int .i64 0, .int .i64 0, .int .i64 0, .int .i64 1, .int .i64 7, .int .i64 0, .int .i64 m0, .int .i64 0, .int .i64 0, .int .i64 0, .slice none 0 0, .slice none 0 0] 78 (0, 0))) := Lib.hid (by rw [hw, hE]; exact heap_alloc_new _ _)
      have hEw : w.heap.size ≤ E := by rw [hE]; exact bel1.size
      have bel2 := bel1.trans (hb.mono bel1.size)
      have HS2 := Lib.hid (same_below' HS1.out hb)
      have HROW2 := Lib.hid (own_below HROW1.out hb (Nat.le_refl _))
      clear hb hw hE
      refine Txt.SegPost.mk (Txt.Ty.Shown.same HS2.out) ?_
      (try simp only [Txt.pick, List.getElem?_cons_succ, List.getElem?_cons_zero])
      go_wp2
      refine Txt.RunPost.mk ?_
      refine Txt.Ty.wpTr_done (by rfl) ⟨.head _, trivial⟩ ?_
      go_wp2
      go_ret3
      rw [HE.out]
      exact ⟨_, E, rfl, HROW2.out, HEF2.out, hEw, bel2⟩
    · (try simp only [Txt.pick, List.getElem?_cons_succ, List.getElem?_cons_zero])
      go_wp2
      obtain ⟨E, hE⟩ : ∃ E, E = z0.heap.size := ⟨_, rfl⟩
      obtain ⟨z1, hw⟩ : ∃ X, X = z0.alloc (.cells #[.int .i64 1, .int .i64 0, .int .i64 0, .int .i64 0, .int .i64 0, .int .i64 0, .int .i64 1, .int .i64 7, .int .i64 0, .int .i64 m0, .int .i64 0, .int .i64 0, .int .i64 0, .slice none 0 0, .slice none 0 0] 78) := ⟨_, rfl⟩
      rw [← hw, ← hE]
      have hb : Below z0.heap.size z0 z1 := by rw [hw]; exact (Below.refl _ _).alloc (Nat.le_refl _) _
      have HEF1 : Hid (z1.heap[E]? = some (.cells #[.int .i64 1, .int .i64 0, .int .i64 0, .int .i64 0, .int .i64 0, .int .i64 0, .int .i64 1, .int .i64 7, .int .i64 0, .int .i64 m0, .int .i64 0, .int .i64 0, .int .i64 0, .slice none 0 0, .slice none 0 0] 78 (0, 0))) := Lib.hid (by rw [hw, hE]; exact heap_alloc_new _ _)
      have hEw : w.heap.size ≤ E := by rw [hE]; exact bel0.size
      have bel1 := bel0.trans (hb.mono bel0.size)
      have HS1 := Lib.hid (same_below' HS0.out hb)
      have HSz1 := Lib.hid (HSz0.out.below hb)
      clear hb hw hE
      refine Txt.SegPost.mk (Txt.Ty.Shown.same HS1.out) ?_
      (try simp only [Txt.pick, List.getElem?_cons_succ, List.getElem?_cons_zero])
      go_wp2
      refine Txt.RunPost.mk ?_
      refine Txt.Ty.wpTr_alt ?_ Txt.Ty.wpTr_no
      (try simp only [Txt.pick, List.getElem?_cons_succ, List.getElem?_cons_zero])
      go_wp2_with fail
      refine (encode_any _ _ _ (by omega) HSz1.out (valid_fits HV.out)).mono ?_
      rintro e y2 ⟨ev, rfl, hrow, hb⟩
      have bel2 := bel1.trans (hb.mono bel1.size)
      have HROW2 := Lib.hid (own_base hrow bel1.size)
      have HS2 := Lib.hid (same_below' HS1.out hb)
      obtain ⟨ea, ec, rfl⟩ := own_slice hrow
      have HEF2 := Lib.hid ((hb.block E (Array.getElem?_eq_some_iff.1 HEF1.out).1).trans HEF1.out)
      clear hb hrow
      go_wp2
      refine Txt.SegPost.mk (Txt.Ty.Shown.same HS2.out) ?_
      (try simp only [Txt.pick, List.getElem?_cons_succ, List.getElem?_cons_zero])
      go_wp2
      refine Txt.RunPost.mk ?_
      refine Txt.Ty.wpTr_done (by rfl) ⟨.head _, trivial⟩ ?_
      go_wp2
      go_ret3
      rw [HE.out]
      exact ⟨_, E, rfl, HROW2.out, HEF2.out, hEw, bel2⟩
  by_cases hk6 : mk = 6
  · have HE := Lib.hid (HSB.out.trans (stepB_no HY.out (m0 := m0) hp (fun h => by have := h.1; omega)))
    subst hk6
    have hp' : ¬ (ms = 1 ∧ (m1 = 0 ∧ m2 = 0 ∧ m3 = 0) ∧ d.length = 0) := fun h => hp ⟨rfl, h⟩
    have HP := Lib.hid hp'
    clear hp hp'
    go_wp2
    all_goals first
      | (go_ret3
         rw [HE.out]
         exact ⟨rfl, bel4⟩)
      | (exfalso
         have := HP.out
         simp only [Bool.and_eq_true, beq_iff_eq] at *
         omega)
  have e6 : (mk == 6) = false := by simp [hk6]
  by_cases hc : callOK ms mk m0 m1 m2 m3 d.length
  · have HE := Lib.hid (HSB.out.trans (stepB_call HY.out hp hc))
    obtain ⟨rfl, ⟨hs1, hs2, hs3⟩, ⟨rfl, rfl, rfl⟩, ⟨hm1, hm2⟩, hdl⟩ := hc
    have e2 : (ms != 2) = true := by simp [hs3]
    have edl : (d.length : Int) ≤ 128 := by omega
    have hvd := valid_do (op := m0) (s := d) HV.out ⟨hs1, hs2⟩
    obtain ⟨Dl, hDl⟩ : ∃ D, doN X m0 d ms = D := ⟨_, rfl⟩
    rw [hDl] at HE hvd
    have HDl := Lib.hid hDl
    have HVD := Lib.hid hvd
    have k1 := run_str HD4.out 23 5 9 Try.underlying23 Try.underlying5 Try.underlying9
    have hop : m0 = 0 ∨ m0 = 1 ∨ m0 = 2 := by omega
    have Hop := Lib.hid hop
    have HP := Lib.hid hp
    have hDll := validN_len hvd
    clear hp hDl hvd hop hs3 hk6
    go_wp2_with fail
    refine (do_any _ X m0 d ms _ (by omega) HS4.out HV.out Hop.out).mono ?_
    rw [HDl.out]
    rintro e w5 ⟨v5, rfl, hs5, hb5⟩
    have bel5 := bel4.trans (hb5.mono bel4.size)
    have HS5 := Lib.hid hs5
    have HR5 := Lib.hid ((hb5.block R (Array.getElem?_eq_some_iff.1 HR4.out).1).trans HR4.out)
    obtain ⟨a5, c5, rfl⟩ := Raw.slice hs5
    clear hs5 hb5 k1 m_0 m_1 m_2 m_3 m_4 m_5 m_6 m_7 m_8 a_0 a_1 a_2 a_3
    obtain ⟨D1, hD1⟩ : ∃ x, x = Dl.1 := ⟨_, rfl⟩
    obtain ⟨D2, hD2⟩ : ∃ x, x = Dl.2.1 := ⟨_, rfl⟩
    obtain ⟨D3, hD3⟩ : ∃ x, x = Dl.2.2 := ⟨_, rfl⟩
    rw [← hD1, ← hD2, ← hD3] at HE
    rw [← hD1] at HS5 HVD hDll
    rw [← hD1, ← hD2, ← hD3]
    clear hD1 hD2 hD3 HDl
    have r_0 : w5.cell? ⟨R, 0, none⟩ = some (.int .i64 0) := box_at HR5.out rfl
    have r_1 : w5.cell? ⟨R, 1, none⟩ = some (.int .i64 ms) := box_at HR5.out rfl
    have r_2 : w5.cell? ⟨R, 2, none⟩ = some (.int .i64 0) := box_at HR5.out rfl
    have r_3 : w5.cell? ⟨R, 3, none⟩ = some (.int .i64 0) := box_at HR5.out rfl
    have r_4 : w5.cell? ⟨R, 4, none⟩ = some (.int .i64 0) := box_at HR5.out rfl
    have r_5 : w5.cell? ⟨R, 5, none⟩ = some (.int .i64 0) := box_at HR5.out rfl
    have r_6 : w5.cell? ⟨R, 6, none⟩ = some (.int .i64 0) := box_at HR5.out rfl
    have r_7 : w5.cell? ⟨R, 7, none⟩ = some (.int .i64 0) := box_at HR5.out rfl
    have r_8 : w5.cell? ⟨R, 8, none⟩ = some (.slice none 0 0) := box_at HR5.out rfl
    have f_0 := box_free HR5.out 0
    have f_1 := box_free HR5.out 1
    have f_2 := box_free HR5.out 2
    have f_3 := box_free HR5.out 3
    have f_4 := box_free HR5.out 4
    have f_5 := box_free HR5.out 5
    have f_6 := box_free HR5.out 6
    have f_7 := box_free HR5.out 7
    have f_8 := box_free HR5.out 8
    go_upto_region 15 with (fail)
    clear r_0 r_1 r_2 r_3 r_4 r_5 r_6 r_7 r_8 f_0 f_1 f_2 f_3 f_4 f_5 f_6 f_7 f_8
    obtain ⟨w6, hN⟩ : ∃ X, X = (((((w5.setCell ⟨R, 2, none⟩ (.int .i64 27)).setCell ⟨R, 4, none⟩ (.int .i64 D3)).setCell ⟨R, 5, none⟩ (.int .i64 D2)).setCell ⟨R, 6, none⟩ (.int .i64 0)).setCell ⟨R, 7, none⟩ (.int .i64 0)) := ⟨_, rfl⟩
    rw [← hN]
    obtain ⟨hNb, hNk⟩ := puts_at [(2, .int .i64 27), (4, .int .i64 D3), (5, .int .i64 D2), (6, .int .i64 0), (7, .int .i64 0)] HR5.out
    have hNe : puts w5 R [(2, .int .i64 27), (4, .int .i64 D3), (5, .int .i64 D2), (6, .int .i64 0), (7, .int .i64 0)] = w6 := hN.symm
    rw [hNe] at hNb hNk
    have HR6 : Hid (w6.heap[R]? = some (.cells #[.int .i64 0, .int .i64 ms, .int .i64 27, .int .i64 0, .int .i64 D3, .int .i64 D2, .int .i64 0, .int .i64 0, .slice none 0 0] 40 (0, 0))) := Lib.hid hNb
    have bel6 := bel5.trans (hNk.below bel5.size (fun f hf => by rw [List.mem_singleton.1 hf]; exact hRw))
    have HS6 := Lib.hid (SlN.keepR HS5.out HR5.out hNk)
    clear hN hNb hNk hNe
    have hBl := show ∀ q ∈ [R], ∃ cc e f, w6.heap[q]? = some (.cells cc e f) from fun q hq => by rw [List.mem_singleton.1 hq]; exact ⟨_, _, _, HR6.out⟩
    refine Txt.Ty.wp_tree [R] [2] [] [2] [0, 2, 3] (.alt [1, 5] (.alt [4, 6, 7] (.done) (.no)) (.alt [4] (.alt [1, 5, 6, 7] (.done) (.no)) (.no))) (by kernel_rfl) (by kernel_rfl) (by kernel_rfl) (by kernel_rfl) hBl ?_
    obtain ⟨y0, hy0⟩ : ∃ y, y = w6.drew := ⟨_, rfl⟩
    have HS0 : Hid (Txt.SameB [R] y0 y0) := Lib.hid (by rw [hy0]; exact same_start hBl)
    clear hBl
    rw [← hy0]
    have hd : Below w6.heap.size w6 y0 := by rw [hy0]; exact (Below.refl _ _).drew
    have bel0 := bel6.trans (hd.mono bel6.size)
    have HSy0 := Lib.hid ((HS6.out).below hd)
    have hr := (hd.block R (Array.getElem?_eq_some_iff.1 HR6.out).1).trans HR6.out
    have r_0 : y0.cell? ⟨R, 0, none⟩ = some (.int .i64 0) := box_at hr rfl
    have r_1 : y0.cell? ⟨R, 1, none⟩ = some (.int .i64 ms) := box_at hr rfl
    have r_2 : y0.cell? ⟨R, 2, none⟩ = some (.int .i64 27) := box_at hr rfl
    have r_3 : y0.cell? ⟨R, 3, none⟩ = some (.int .i64 0) := box_at hr rfl
    have r_4 : y0.cell? ⟨R, 4, none⟩ = some (.int .i64 D3) := box_at hr rfl
    have r_5 : y0.cell? ⟨R, 5, none⟩ = some (.int .i64 D2) := box_at hr rfl
    have r_6 : y0.cell? ⟨R, 6, none⟩ = some (.int .i64 0) := box_at hr rfl
    have r_7 : y0.cell? ⟨R, 7, none⟩ = some (.int .i64 0) := box_at hr rfl
    have r_8 : y0.cell? ⟨R, 8, none⟩ = some (.slice none 0 0) := box_at hr rfl
    clear hr hd hy0
    (try simp only [Txt.pick, List.getElem?_cons_succ, List.getElem?_cons_zero])
    go_wp2
    refine Txt.RunPost.mk ?_
    refine Txt.Ty.wpTr_alt ?_ (Txt.Ty.wpTr_alt ?_ Txt.Ty.wpTr_no)
    · (try simp only [Txt.pick, List.getElem?_cons_succ, List.getElem?_cons_zero])
      go_wp2_with fail
      refine (encode_any _ _ _ (by omega) HSy0.out (valid_fits HVD.out)).mono ?_
      rintro e y1 ⟨ev, rfl, hrow, hb⟩
      have bel1 := bel0.trans (hb.mono bel0.size)
      have HROW1 := Lib.hid (own_base hrow bel0.size)
      have HS1 := Lib.hid (same_below' HS0.out hb)
      obtain ⟨ea, ec, rfl⟩ := own_slice hrow
      clear hb hrow
      go_wp2
      refine Txt.SegPost.mk (Txt.Ty.Shown.same HS1.out) ?_
      (try simp only [Txt.pick, List.getElem?_cons_succ, List.getElem?_cons_zero])
      go_wp2
      refine Txt.RunPost.mk ?_
      refine Txt.Ty.wpTr_alt ?_ Txt.Ty.wpTr_no
      (try simp only [Txt.pick, List.getElem?_cons_succ, List.getElem?_cons_zero])
      go_wp2
      obtain ⟨E, hE⟩ : ∃ E, E = y1.heap.size := ⟨_, rfl⟩
      obtain ⟨y2, hw⟩ : ∃ X, X = y1.alloc (.cells #[.int .i64 1, .int .i64 0, .int .i64 0, .int .i64 0, .int .i64 0, .int .i64 0, .int .i64 ms, .int .i64 27, .int .i64 0, .int .i64 D3, .int .i64 D2, .int .i64 0, .int .i64 0, .slice none 0 0, .slice none 0 0] 78) := ⟨_, rfl⟩
      rw [← hw, ← hE]
      have hb : Below y1.heap.size y1 y2 := by rw [hw]; exact (Below.refl _ _).alloc (Nat.le_refl _) _
      have HEF2 : Hid (y2.heap[E]? = some (.cells #[.int .i64 1, .int .i64 0, .int .i64 0, .int .i64 0, .int .i64 0, .int .i64 0, .int .i64 ms, .int .i64 27, .int .i64 0, .int .i64 D3, .int .i64 D2, .int .i64 0, .int .i64 0, .slice none 0 0, .slice none 0 0] 78 (0, 0))) := Lib.hid (by rw [hw, hE]; exact heap_alloc_new _ _)
      have hEw : w.heap.size ≤ E := by rw [hE]; exact bel1.size
      have bel2 := bel1.trans (hb.mono bel1.size)
      have HS2 := Lib.hid (same_below' HS1.out hb)
      have HROW2 := Lib.hid (own_below HROW1.out hb (Nat.le_refl _))
      clear hb hw hE
      refine Txt.SegPost.mk (Txt.Ty.Shown.same HS2.out) ?_
      (try simp only [Txt.pick, List.getElem?_cons_succ, List.getElem?_cons_zero])
      go_wp2
      refine Txt.RunPost.mk ?_
      refine Txt.Ty.wpTr_done (by rfl) ⟨.head _, trivial⟩ ?_
      go_wp2
      go_ret3
      rw [HE.out]
      exact ⟨_, E, rfl, HROW2.out, HEF2.out, hEw, bel2⟩
    · (try simp only [Txt.pick, List.getElem?_cons_succ, List.getElem?_cons_zero])
      go_wp2
      obtain ⟨E, hE⟩ : ∃ E, E = y0.heap.size := ⟨_, rfl⟩
      obtain ⟨y1, hw⟩ : ∃ X, X = y0.alloc (.cells #[.int .i64 1, .int .i64 0, .int .i64 0, .int .i64 0, .int .i64 0, .int .i64 0, .int .i64 ms, .int .i64 27, .int .i64 0, .int .i64 D3, .int .i64 D2, .int .i64 0, .int .i64 0, .slice none 0 0, .slice none 0 0] 78) := ⟨_, rfl⟩
      rw [← hw, ← hE]
      have hb : Below y0.heap.size y0 y1 := by rw [hw]; exact (Below.refl _ _).alloc (Nat.le_refl _) _
      have HEF1 : Hid (y1.heap[E]? = some (.cells #[.int .i64 1, .int .i64 0, .int .i64 0, .int .i64 0, .int .i64 0, .int .i64 0, .int .i64 ms, .int .i64 27, .int .i64 0, .int .i64 D3, .int .i64 D2, .int .i64 0, .int .i64 0, .slice none 0 0, .slice none 0 0] 78 (0, 0))) := Lib.hid (by rw [hw, hE]; exact heap_alloc_new _ _)
      have hEw : w.heap.size ≤ E := by rw [hE]; exact bel0.size
      have bel1 := bel0.trans (hb.mono bel0.size)
      have HS1 := Lib.hid (same_below' HS0.out hb)
      have HSy1 := Lib.hid (HSy0.out.below hb)
      clear hb hw hE
      refine Txt.SegPost.mk (Txt.Ty.Shown.same HS1.out) ?_
      (try simp only [Txt.pick, List.getElem?_cons_succ, List.getElem?_cons_zero])
      go_wp2
      refine Txt.RunPost.mk ?_
      refine Txt.Ty.wpTr_alt ?_ Txt.Ty.wpTr_no
      (try simp only [Txt.pick, List.getElem?_cons_succ, List.getElem?_cons_zero])
      go_wp2_with fail
      refine (encode_any _ _ _ (by omega) HSy1.out (valid_fits HVD.out)).mono ?_
      rintro e y2 ⟨ev, rfl, hrow, hb⟩
      have bel2 := bel1.trans (hb.mono bel1.size)
      have HROW2 := Lib.hid (own_base hrow bel1.size)
      have HS2 := Lib.hid (same_below' HS1.out hb)
      obtain ⟨ea, ec, rfl⟩ := own_slice hrow
      have HEF2 := Lib.hid ((hb.block E (Array.getElem?_eq_some_iff.1 HEF1.out).1).trans HEF1.out)
      clear hb hrow
      go_wp2
      refine Txt.SegPost.mk (Txt.Ty.Shown.same HS2.out) ?_
      (try simp only [Txt.pick, List.getElem?_cons_succ, List.getElem?_cons_zero])
      go_wp2
      refine Txt.RunPost.mk ?_
      refine Txt.Ty.wpTr_done (by rfl) ⟨.head _, trivial⟩ ?_
      go_wp2
      go_ret3
      rw [HE.out]
      exact ⟨_, E, rfl, HROW2.out, HEF2.out, hEw, bel2⟩
  · have HE := Lib.hid (HSB.out.trans (stepB_no HY.out (m0 := m0) hp hc))
    have HC := Lib.hid hc
    clear hp hk6 hc
    go_wp2
    all_goals first
      | (go_ret3
         rw [HE.out]
         exact ⟨rfl, bel4⟩)
      | (exfalso
         have := HC.out
         unfold callOK at this
         simp only [Bool.and_eq_true, beq_iff_eq, bne_iff_ne, ne_eq] at *
         omega)
end Go.Proofs.Ytfgbkfifiioeiaa
