/- names: the reference's Next, Step -/
import Derived.Test.YtfgbkfifiioeiaaNt
namespace Go.Nm
open Go Go.RowKit Go.Bs Go.Cl Go.Rw Go.Wi
def RetNx (r : Option (List Nm × Rp)) (ms : Int) (w : World) (e : Ending) (w' : World) : Prop :=
  match r with
  | none => e = .returned (.tuple #[.slice none 0 0, .slice none 0 0, .int .i64 23]) ∧ Below w.heap.size w w'
  | some (l, r) => ∃ v E, e = .returned (.tuple #[v, .slice (some ⟨E, 0, none⟩) 1 1, .int .i64 0]) ∧ SlN w' v l ∧ w'.heap[E]? = some (.cells (effC ms r) 78 (0, 0)) ∧ w.heap.size ≤ E ∧ Below w.heap.size w w'
theorem stepN_dst {X : List Nm} {ms md mk m0 m1 m2 m3 : Int} {d : List UInt8} (hm : md ≠ 2) : stepN X ms md mk m0 m1 m2 m3 d = none := by unfold stepN; simp [hm]
theorem stepN_ping {X : List Nm} {ms mk m0 m1 m2 m3 : Int} {d : List UInt8} (hp : pingOK ms mk m1 m2 m3 d.length) : stepN X ms 2 mk m0 m1 m2 m3 d = some (X, ⟨7, m0, 0, 0, 0⟩) := by unfold stepN; simp [hp]
theorem stepN_call {X : List Nm} {ms mk m0 m1 m2 m3 : Int} {d : List UInt8} (hn : ¬ pingOK ms mk m1 m2 m3 d.length) (hp : callOK ms mk m0 m1 m2 m3 d.length) : stepN X ms 2 mk m0 m1 m2 m3 d = some ((doN X m0 d ms).1, ⟨27, (doN X m0 d ms).2.2, (doN X m0 d ms).2.1, 0, 0⟩) := by unfold stepN; simp [hn, hp]
theorem stepN_no {X : List Nm} {ms md mk m0 m1 m2 m3 : Int} {d : List UInt8} (hn : ¬ pingOK ms mk m1 m2 m3 d.length) (hp : ¬ callOK ms mk m0 m1 m2 m3 d.length) : stepN X ms md mk m0 m1 m2 m3 d = none := by unfold stepN; simp [hn, hp]
end Go.Nm
namespace Go.Proofs.Ytfgbkfifiioeiaa
open Go.RowKit Go.Bs Go.Cl Go.Rw Go.Nm Go.Wi
set_option maxRecDepth 100000 in
set_option maxHeartbeats 8000000 in
theorem rnext_any (v : Value) (X : List Nm) (ms md mk mq m0 m1 m2 m3 : Int) (da : Option Addr) (dc : Nat) (d : List UInt8) (w : World) (hL : SlN w v X) (hv : validN X = true) (hdl : d.length ≤ 1000000) (hD : Bytes [] w (.slice da d.length dc) d) :
    Calls Try.prog 41 #[v, .agg #[.int .i64 ms, .int .i64 md, .int .i64 mk, .int .i64 mq, .int .i64 m0, .int .i64 m1, .int .i64 m2, .int .i64 m3, .slice da d.length dc]] w (RetNx (stepN X ms md mk m0 m1 m2 m3 d) ms w) := by
  obtain ⟨la, lc, rfl⟩ := Raw.slice hL
  obtain ⟨SN, hSN⟩ : ∃ SN, SN = stepN X ms md mk m0 m1 m2 m3 d := ⟨_, rfl⟩
  rw [← hSN]
  have HSN := Lib.hid hSN
  have HV := Lib.hid hv
  clear hSN hv
  have hXl := validN_len HV.out
  obtain ⟨M, hM⟩ : ∃ M, M = w.heap.size := ⟨_, rfl⟩
  obtain ⟨w1, hw1⟩ : ∃ W, W = w.alloc (.cells #[.int .i64 ms, .int .i64 md, .int .i64 mk, .int .i64 mq, .int .i64 m0, .int .i64 m1, .int .i64 m2, .int .i64 m3, .slice da d.length dc] 40) := ⟨_, rfl⟩
  have HW := Lib.hid hw1
  have hb1 : Below w.heap.size w w1 := by rw [hw1]; exact (Below.refl _ w).alloc (Nat.le_refl _) _
  have HM1 : Hid (w1.heap[M]? = some (.cells #[.int .i64 ms, .int .i64 md, .int .i64 mk, .int .i64 mq, .int .i64 m0, .int .i64 m1, .int .i64 m2, .int .i64 m3, .slice da d.length dc] 40 (0, 0))) := Lib.hid (by rw [hw1, hM]; exact heap_alloc_new w _)
  have HL1 := Lib.hid (hL.below hb1); have HD1 := Lib.hid (Raw.below hD hb1)
  have hMw : w.heap.size ≤ M := by omega
  clear hw1 hL hD
  go_enter Try.func41, Try.ntmps41
  go_upto_region 1 with (fail)
  rw [← HW.out, ← hM]
  clear HW hM
  have m_0 : w1.cell? ⟨M, 0, none⟩ = some (.int .i64 ms) := box_at HM1.out rfl
  have m_1 : w1.cell? ⟨M, 1, none⟩ = some (.int .i64 md) := box_at HM1.out rfl
  have m_2 : w1.cell? ⟨M, 2, none⟩ = some (.int .i64 mk) := box_at HM1.out rfl
  have m_3 : w1.cell? ⟨M, 3, none⟩ = some (.int .i64 mq) := box_at HM1.out rfl
  have m_4 : w1.cell? ⟨M, 4, none⟩ = some (.int .i64 m0) := box_at HM1.out rfl
  have m_5 : w1.cell? ⟨M, 5, none⟩ = some (.int .i64 m1) := box_at HM1.out rfl
  have m_6 : w1.cell? ⟨M, 6, none⟩ = some (.int .i64 m2) := box_at HM1.out rfl
  have m_7 : w1.cell? ⟨M, 7, none⟩ = some (.int .i64 m3) := box_at HM1.out rfl
  have m_8 : w1.cell? ⟨M, 8, none⟩ = some (.slice da d.length dc) := box_at HM1.out rfl
  have hMl : M < w1.heap.size := (Array.getElem?_eq_some_iff.1 HM1.out).1
  go_upto_region 2 with (fail)
  clear hMl
  obtain ⟨A, hA⟩ : ∃ A, A = w1.heap.size := ⟨_, rfl⟩
  obtain ⟨w4, hw4⟩ : ∃ W, W = w1.alloc (.cells #[.int .i64 m0, .int .i64 m1, .int .i64 m2, .int .i64 m3] 38) := ⟨_, rfl⟩
  rw [← hw4, ← hA]
  have hb4 : Below w1.heap.size w1 w4 := by rw [hw4]; exact (Below.refl _ w1).alloc (Nat.le_refl _) _
  have HA4 : Hid (w4.heap[A]? = some (.cells #[.int .i64 m0, .int .i64 m1, .int .i64 m2, .int .i64 m3] 38 (0, 0))) := Lib.hid (by rw [hw4, hA]; exact heap_alloc_new w1 _)
  have bel4 := hb1.trans (hb4.mono hb1.size)
  have HM4 := Lib.hid ((hb4.block M (Array.getElem?_eq_some_iff.1 HM1.out).1).trans HM1.out)
  have HS4 := Lib.hid (HL1.out.below hb4)
  have HD4 := Lib.hid (Raw.below HD1.out hb4)
  clear hb1 hb4 hw4 hA HM1 HL1 HD1 m_0 m_1 m_2 m_3 m_4 m_5 m_6 m_7 m_8
  have m_0 : w4.cell? ⟨M, 0, none⟩ = some (.int .i64 ms) := box_at HM4.out rfl
  have m_1 : w4.cell? ⟨M, 1, none⟩ = some (.int .i64 md) := box_at HM4.out rfl
  have m_2 : w4.cell? ⟨M, 2, none⟩ = some (.int .i64 mk) := box_at HM4.out rfl
  have m_3 : w4.cell? ⟨M, 3, none⟩ = some (.int .i64 mq) := box_at HM4.out rfl
  have m_4 : w4.cell? ⟨M, 4, none⟩ = some (.int .i64 m0) := box_at HM4.out rfl
  have m_5 : w4.cell? ⟨M, 5, none⟩ = some (.int .i64 m1) := box_at HM4.out rfl
  have m_6 : w4.cell? ⟨M, 6, none⟩ = some (.int .i64 m2) := box_at HM4.out rfl
  have m_7 : w4.cell? ⟨M, 7, none⟩ = some (.int .i64 m3) := box_at HM4.out rfl
  have m_8 : w4.cell? ⟨M, 8, none⟩ = some (.slice da d.length dc) := box_at HM4.out rfl
  have a_0 : w4.cell? ⟨A, 0, none⟩ = some (.int .i64 m0) := box_at HA4.out rfl
  have a_1 : w4.cell? ⟨A, 1, none⟩ = some (.int .i64 m1) := box_at HA4.out rfl
  have a_2 : w4.cell? ⟨A, 2, none⟩ = some (.int .i64 m2) := box_at HA4.out rfl
  have a_3 : w4.cell? ⟨A, 3, none⟩ = some (.int .i64 m3) := box_at HA4.out rfl
  by_cases hmd : md = 2
  rotate_left
  · have HE := Lib.hid (HSN.out.trans (stepN_dst (X := X) (ms := ms) (mk := mk) (m0 := m0) (m1 := m1) (m2 := m2) (m3 := m3) (d := d) hmd))
    have e1 : (md != 2) = true := by simp [hmd]
    clear hmd
    go_wp2
    go_ret3
    rw [HE.out]
    exact ⟨rfl, bel4⟩
  subst hmd
  by_cases hp : pingOK ms mk m1 m2 m3 d.length
  · have HE := Lib.hid (HSN.out.trans (stepN_ping (X := X) (m0 := m0) hp))
    obtain ⟨rfl, rfl, ⟨rfl, rfl, rfl⟩, hd0⟩ := hp
    have hd1 : ((d.length : Nat) : Int) = 0 := by omega
    clear hd0
    go_upto_region 5 with (fail)
    refine Txt.Ty.wp_tree [] [] [] [1] [0, 1, 2, 3, 5] (.alt [4, 6, 7] (.done) (.no)) (by kernel_rfl) (by kernel_rfl) (by kernel_rfl) (by kernel_rfl) (fun b hb => by cases hb) ?_
    obtain ⟨y0, hy0⟩ : ∃ y, y = w4.drew := ⟨_, rfl⟩
    rw [← hy0]
    have hd : Below w4.heap.size w4 y0 := by rw [hy0]; exact (Below.refl _ _).drew
    have bely := bel4.trans (hd.mono bel4.size)
    have HSy := Lib.hid (HS4.out.below hd)
    have hm := (hd.block M (Array.getElem?_eq_some_iff.1 HM4.out).1).trans HM4.out
    have ha := (hd.block A (Array.getElem?_eq_some_iff.1 HA4.out).1).trans HA4.out
    clear m_0 m_1 m_2 m_3 m_4 m_5 m_6 m_7 m_8 a_0 a_1 a_2 a_3
    have m_0 : y0.cell? ⟨M, 0, none⟩ = some (.int .i64 1) := box_at hm rfl
    have m_1 : y0.cell? ⟨M, 1, none⟩ = some (.int .i64 2) := box_at hm rfl
    have m_2 : y0.cell? ⟨M, 2, none⟩ = some (.int .i64 6) := box_at hm rfl
    have m_3 : y0.cell? ⟨M, 3, none⟩ = some (.int .i64 mq) := box_at hm rfl
    have m_4 : y0.cell? ⟨M, 4, none⟩ = some (.int .i64 m0) := box_at hm rfl
    have m_5 : y0.cell? ⟨M, 5, none⟩ = some (.int .i64 0) := box_at hm rfl
    have m_6 : y0.cell? ⟨M, 6, none⟩ = some (.int .i64 0) := box_at hm rfl
    have m_7 : y0.cell? ⟨M, 7, none⟩ = some (.int .i64 0) := box_at hm rfl
    have m_8 : y0.cell? ⟨M, 8, none⟩ = some (.slice da d.length dc) := box_at hm rfl
    have a_0 : y0.cell? ⟨A, 0, none⟩ = some (.int .i64 m0) := box_at ha rfl
    have a_1 : y0.cell? ⟨A, 1, none⟩ = some (.int .i64 0) := box_at ha rfl
    have a_2 : y0.cell? ⟨A, 2, none⟩ = some (.int .i64 0) := box_at ha rfl
    have a_3 : y0.cell? ⟨A, 3, none⟩ = some (.int .i64 0) := box_at ha rfl
    clear hm ha hd hy0
    (try simp only [Txt.pick, List.getElem?_cons_succ, List.getElem?_cons_zero])
    go_wp2
    refine Txt.RunPost.mk ?_
    refine Txt.Ty.wpTr_alt ?_ Txt.Ty.wpTr_no
    (try simp only [Txt.pick, List.getElem?_cons_succ, List.getElem?_cons_zero])
    go_wp2
    obtain ⟨E, hE⟩ : ∃ E, E = y0.heap.size := ⟨_, rfl⟩
    obtain ⟨z, hz⟩ : ∃ X, X = y0.alloc (.cells #[.int .i64 1, .int .i64 0, .int .i64 0, .int .i64 0, .int .i64 0, .int .i64 0, .int .i64 1, .int .i64 7, .int .i64 0, .int .i64 m0, .int .i64 0, .int .i64 0, .int .i64 0, .slice none 0 0, .slice none 0 0] 78) := ⟨_, rfl⟩
    rw [← hz, ← hE]
    have hb : Below y0.heap.size y0 z := by rw [hz]; exact (Below.refl _ _).alloc (Nat.le_refl _) _
    have HEF : Hid (z.heap[E]? = some (.cells #[.int .i64 1, .int .i64 0, .int .i64 0, .int .i64 0, .int .i64 0, .int .i64 0, .int .i64 1, .int .i64 7, .int .i64 0, .int .i64 m0, .int .i64 0, .int .i64 0, .int .i64 0, .slice none 0 0, .slice none 0 0] 78 (0, 0))) := Lib.hid (by rw [hz, hE]; exact heap_alloc_new _ _)
    have hEw : w.heap.size ≤ E := by rw [hE]; exact bely.size
    have belz := bely.trans (hb.mono bely.size)
    have HSz := Lib.hid (HSy.out.below hb)
    clear hb hz hE m_0 m_1 m_2 m_3 m_4 m_5 m_6 m_7 m_8 a_0 a_1 a_2 a_3
    refine Txt.SegPost.mk Txt.Ty.Shown.none ?_
    (try simp only [Txt.pick, List.getElem?_cons_succ, List.getElem?_cons_zero])
    go_wp2
    refine Txt.RunPost.mk ?_
    refine Txt.Ty.wpTr_done (by rfl) trivial ?_
    go_wp2
    go_ret3
    rw [HE.out]
    exact ⟨_, E, rfl, HSz.out, HEF.out, hEw, belz⟩
  by_cases hc : callOK ms mk m0 m1 m2 m3 d.length
  · have HE := Lib.hid (HSN.out.trans (stepN_call hp hc))
    obtain ⟨rfl, ⟨hs1, hs2, hs3⟩, ⟨rfl, rfl, rfl⟩, ⟨hm1, hm2⟩, hdl8⟩ := hc
    have e2 : (ms == 2) = false := by simp [hs3]
    have edl : ¬ (128 : Int) < (d.length : Int) := by omega
    have g1 : ¬ ms < 1 := by omega
    have g2 : ¬ 10 < ms := by omega
    have g3 : ¬ m0 < 0 := by omega
    have g4 : ¬ 2 < m0 := by omega
    obtain ⟨Dl, hDl⟩ : ∃ D, doN X m0 d ms = D := ⟨_, rfl⟩
    rw [hDl] at HE
    have HDl := Lib.hid hDl
    have k1 := run_str HD4.out 23 5 9 Try.underlying23 Try.underlying5 Try.underlying9
    have hop : m0 = 0 ∨ m0 = 1 ∨ m0 = 2 := by omega
    have Hop := Lib.hid hop
    clear hp hDl hop hs3
    go_wp2_with fail
    refine (rdo_any _ X m0 d ms _ (by omega) hdl HS4.out HV.out hs1 Hop.out).mono ?_
    rw [HDl.out]
    rintro e w5 ⟨v5, rfl, hs5, hb5⟩
    have bel5 := bel4.trans (hb5.mono bel4.size)
    have HS5 := Lib.hid hs5
    have HM5 := Lib.hid ((hb5.block M (Array.getElem?_eq_some_iff.1 HM4.out).1).trans HM4.out)
    have HA5 := Lib.hid ((hb5.block A (Array.getElem?_eq_some_iff.1 HA4.out).1).trans HA4.out)
    obtain ⟨a5, c5, hv5⟩ := Raw.slice hs5
    subst hv5
    obtain ⟨D1, D2, D3⟩ := Dl
    simp only at HS5 ⊢
    clear hs5 hb5 k1 HDl
    go_upto_region 9 with (fail)
    refine Txt.Ty.wp_tree [] [] [] [2] [0, 1, 2, 3, 4, 5, 6, 7, 9] (.alt [8, 10, 11] (.done) (.no)) (by kernel_rfl) (by kernel_rfl) (by kernel_rfl) (by kernel_rfl) (fun b hb => by cases hb) ?_
    obtain ⟨y0, hy0⟩ : ∃ y, y = w5.drew := ⟨_, rfl⟩
    rw [← hy0]
    have hd : Below w5.heap.size w5 y0 := by rw [hy0]; exact (Below.refl _ _).drew
    have bely := bel5.trans (hd.mono bel5.size)
    have HSy := Lib.hid (HS5.out.below hd)
    have hm := (hd.block M (Array.getElem?_eq_some_iff.1 HM5.out).1).trans HM5.out
    have ha := (hd.block A (Array.getElem?_eq_some_iff.1 HA5.out).1).trans HA5.out
    clear m_0 m_1 m_2 m_3 m_4 m_5 m_6 m_7 m_8 a_0 a_1 a_2 a_3
    have m_0 : y0.cell? ⟨M, 0, none⟩ = some (.int .i64 ms) := box_at hm rfl
    have m_1 : y0.cell? ⟨M, 1, none⟩ = some (.int .i64 2) := box_at hm rfl
    have m_2 : y0.cell? ⟨M, 2, none⟩ = some (.int .i64 26) := box_at hm rfl
    have m_3 : y0.cell? ⟨M, 3, none⟩ = some (.int .i64 mq) := box_at hm rfl
    have m_4 : y0.cell? ⟨M, 4, none⟩ = some (.int .i64 m0) := box_at hm rfl
    have m_5 : y0.cell? ⟨M, 5, none⟩ = some (.int .i64 0) := box_at hm rfl
    have m_6 : y0.cell? ⟨M, 6, none⟩ = some (.int .i64 0) := box_at hm rfl
    have m_7 : y0.cell? ⟨M, 7, none⟩ = some (.int .i64 0) := box_at hm rfl
    have m_8 : y0.cell? ⟨M, 8, none⟩ = some (.slice da d.length dc) := box_at hm rfl
    have a_0 : y0.cell? ⟨A, 0, none⟩ = some (.int .i64 m0) := box_at ha rfl
    have a_1 : y0.cell? ⟨A, 1, none⟩ = some (.int .i64 0) := box_at ha rfl
    have a_2 : y0.cell? ⟨A, 2, none⟩ = some (.int .i64 0) := box_at ha rfl
    have a_3 : y0.cell? ⟨A, 3, none⟩ = some (.int .i64 0) := box_at ha rfl
    clear hm ha hd hy0
    (try simp only [Txt.pick, List.getElem?_cons_succ, List.getElem?_cons_zero])
    go_wp2
    refine Txt.RunPost.mk ?_
    refine Txt.Ty.wpTr_alt ?_ Txt.Ty.wpTr_no
    (try simp only [Txt.pick, List.getElem?_cons_succ, List.getElem?_cons_zero])
    go_wp2
    obtain ⟨E, hE⟩ : ∃ E, E = y0.heap.size := ⟨_, rfl⟩
    obtain ⟨z, hz⟩ : ∃ X, X = y0.alloc (.cells #[.int .i64 1, .int .i64 0, .int .i64 0, .int .i64 0, .int .i64 0, .int .i64 0, .int .i64 ms, .int .i64 27, .int .i64 0, .int .i64 D3, .int .i64 D2, .int .i64 0, .int .i64 0, .slice none 0 0, .slice none 0 0] 78) := ⟨_, rfl⟩
    rw [← hz, ← hE]
    have hb : Below y0.heap.size y0 z := by rw [hz]; exact (Below.refl _ _).alloc (Nat.le_refl _) _
    have HEF : Hid (z.heap[E]? = some (.cells #[.int .i64 1, .int .i64 0, .int .i64 0, .int .i64 0, .int .i64 0, .int .i64 0, .int .i64 ms, .int .i64 27, .int .i64 0, .int .i64 D3, .int .i64 D2, .int .i64 0, .int .i64 0, .slice none 0 0, .slice none 0 0] 78 (0, 0))) := Lib.hid (by rw [hz, hE]; exact heap_alloc_new _ _)
    have hEw : w.heap.size ≤ E := by rw [hE]; exact bely.size
    have belz := bely.trans (hb.mono bely.size)
    have HSz := Lib.hid (HSy.out.below hb)
    clear hb hz hE m_0 m_1 m_2 m_3 m_4 m_5 m_6 m_7 m_8 a_0 a_1 a_2 a_3
    refine Txt.SegPost.mk Txt.Ty.Shown.none ?_
    (try simp only [Txt.pick, List.getElem?_cons_succ, List.getElem?_cons_zero])
    go_wp2
    refine Txt.RunPost.mk ?_
    refine Txt.Ty.wpTr_done (by rfl) trivial ?_
    go_wp2
    go_ret3
    rw [HE.out]
    exact ⟨_, E, rfl, HSz.out, HEF.out, hEw, belz⟩
  · have HE := Lib.hid (HSN.out.trans (stepN_no (X := X) (m0 := m0) hp hc))
    have HC := Lib.hid hc
    have HP := Lib.hid hp
    clear hp hc
    go_wp2
    all_goals first
      | (go_ret3
         rw [HE.out]
         exact ⟨rfl, bel4⟩)
      | (exfalso
         have q1 := HC.out
         have q2 := HP.out
         unfold callOK at q1
         unfold pingOK at q2
         (try simp only [Bool.and_eq_true, beq_iff_eq, bne_iff_ne, ne_eq, decide_eq_true_eq, decide_eq_false_iff_not, bne_eq_false_iff_eq, beq_eq_false_iff_ne, Bool.and_eq_false_iff, Bool.or_eq_true, Bool.or_eq_false_iff] at *)
         omega)
end Go.Proofs.Ytfgbkfifiioeiaa
