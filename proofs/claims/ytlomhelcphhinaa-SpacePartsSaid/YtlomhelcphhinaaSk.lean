/- Space: walk: Join -/
import Derived.Test.YtlomhelcphhinaaSj
namespace Go.Sp
open Go Go.RowKit Go.Bs
theorem joinP_app : ∀ (A B : List Pc), (A = [] ∨ B = [] ∨ (pc A (A.length - 1)).page ≠ (pc B 0).page) → joinP A B = A ++ B
  | [], B, _ => rfl
  | [x], [], _ => rfl
  | [x], y :: B, h => by
    have : x.page ≠ y.page := by simpa [pc] using h
    simp [joinP, this]
  | x :: z :: A, B, h => by
    have h' : z :: A = [] ∨ B = [] ∨ (pc (z :: A) ((z :: A).length - 1)).page ≠ (pc B 0).page := by
      rcases h with h | h | h
      · cases h
      · exact .inr (.inl h)
      · refine .inr (.inr ?_)
        simpa [pc] using h
    simp [joinP, joinP_app (z :: A) B h']
theorem joinP_merge (x y : Pc) (B : List Pc) (h : x.page = y.page) : ∀ A : List Pc, joinP (A ++ [x]) (y :: B) = A ++ (⟨x.page, x.frame, x.fr, x.n + y.n⟩ :: B)
  | [] => by simp [joinP, h]
  | [z] => by simp [joinP, h]
  | z :: u :: A => by
    have := joinP_merge x y B h (u :: A)
    simp only [List.cons_append, joinP] at this ⊢
    rw [this]
end Go.Sp
namespace Go.Proofs.Ytlomhelcphhinaa
open Go.RowKit Go.Bs Go.Sp

theorem encP_one (L : List Pc) : ∀ u ∈ L.flatMap encP, u.oneCell' = true := by
  intro u hu
  obtain ⟨x, _, hx⟩ := List.mem_flatMap.1 hu
  simp [encP] at hx
  rcases hx with rfl | rfl | rfl | rfl <;> rfl
/-- the cells of a slice that is handed to append -/
theorem SlP_news {w : World} {a : Option Addr} {cap : Nat} {L : List Pc} (h : 0 < L.length → ∃ g, a = some ⟨g, 0, none⟩ ∧ g < w.heap.size ∧ PcsAt w g L) :
    0 < L.length → ∃ ad, a = some ad ∧ ∀ j u, (L.flatMap encP)[j]? = some u → w.cell? (ad.add j) = some u := by
  intro h0
  obtain ⟨g, rfl, _, hP⟩ := h h0
  refine ⟨_, rfl, fun j u hj => ?_⟩
  have e : (⟨g, 0, none⟩ : Addr).add j = ⟨g, j, none⟩ := by unfold Addr.add; split <;> simp_all
  rw [e]
  have hlen := flat_length encP encP_len L
  have hjl : j < L.length * 4 := by
    have := (List.getElem?_eq_some_iff.1 hj).1; omega
  have hi : j / 4 < L.length := by omega
  have := flat_get encP encP_len L (j / 4) (j % 4) (pc L (j / 4)) (pc_get hi) (by omega)
  rw [show j / 4 * 4 + j % 4 = j by omega, hj] at this
  obtain ⟨h0, h1, h2, h3⟩ := hP (j / 4) hi
  have hm : j % 4 = 0 ∨ j % 4 = 1 ∨ j % 4 = 2 ∨ j % 4 = 3 := by omega
  have ej : j = j / 4 * 4 + j % 4 := by omega
  rcases hm with hm | hm | hm | hm <;> rw [hm] at this <;> simp [encP] at this <;> rw [ej, hm, this]
  · simpa using h0
  · exact h1
  · exact h2
  · exact h3

theorem flat_set (A : List Pc) (x : Pc) (n : Int) : ((A ++ [x]).flatMap encP).set (A.length * 4 + 3) (.int .i64 n) = (A ++ [(⟨x.page, x.frame, x.fr, n⟩ : Pc)]).flatMap encP := by
  have h := flat_length encP encP_len A
  rw [flat_snoc, flat_snoc, List.set_append_right _ _ (by omega), h]
  congr 1
  rw [show A.length * 4 + 3 - A.length * 4 = 3 by omega]
  rfl
theorem SlP_tail {w : World} {g : Nat} {L : List Pc} (h : PcsAt w g L) : ∀ j u, (L.tail.flatMap encP)[j]? = some u → w.cell? ((⟨g, 4, none⟩ : Addr).add j) = some u := by
  intro j u hj
  cases L with
  | nil => simp at hj
  | cons y B =>
    have e : (⟨g, 4, none⟩ : Addr).add j = ⟨g, 4 + j, none⟩ := by unfold Addr.add; split <;> simp_all
    rw [e]
    simp only [List.tail_cons] at hj
    have hlen := flat_length encP encP_len B
    have hjl : j < B.length * 4 := by
      have := (List.getElem?_eq_some_iff.1 hj).1; omega
    have hi : j / 4 < B.length := by omega
    have := flat_get encP encP_len B (j / 4) (j % 4) (pc B (j / 4)) (pc_get hi) (by omega)
    rw [show j / 4 * 4 + j % 4 = j by omega, hj] at this
    obtain ⟨h0, h1, h2, h3⟩ := h (j / 4 + 1) (by simp; omega)
    have ep : pc (y :: B) (j / 4 + 1) = pc B (j / 4) := by simp [pc]
    rw [ep] at h0 h1 h2 h3
    have hm : j % 4 = 0 ∨ j % 4 = 1 ∨ j % 4 = 2 ∨ j % 4 = 3 := by omega
    have ej : 4 + j = (j / 4 + 1) * 4 + j % 4 := by omega
    rcases hm with hm | hm | hm | hm <;> rw [hm] at this <;> simp [encP] at this <;> rw [ej, hm, this]
    · simpa using h0
    · exact h1
    · exact h2
    · exact h3

set_option maxRecDepth 100000 in
set_option maxHeartbeats 800000 in
theorem join_sl (v1 v2 : Value) (A B : List Pc) (w : World) (hA : A.length ≤ 100000) (hB : B.length ≤ 100000) (hs1 : SlP w v1 A) (hs2 : SlP w v2 B) (hbn : ∀ i, i < A.length → -100000 ≤ (pc A i).n ∧ (pc A i).n ≤ 100000) (hbn2 : ∀ i, i < B.length → -100000 ≤ (pc B i).n ∧ (pc B i).n ≤ 100000) :
    Calls Try.prog 16 #[v1, v2] w fun e w' => ∃ v', e = .returned v' ∧ w'.ownsRow w.heap.size 71 4 v' (joinP A B).length ((joinP A B).flatMap encP) ∧ Below w.heap.size w w' := by
  obtain ⟨J, hJ⟩ : ∃ J, J = joinP A B := ⟨_, rfl⟩
  rw [← hJ]
  have HJ := Lib.hid hJ; clear hJ
  obtain ⟨a1, cap1, rfl, hc1, hh1⟩ := hs1
  obtain ⟨a2, cap2, rfl, hc2, hh2⟩ := hs2
  have Hh1 := Lib.hid hh1; clear hh1
  have Hh2 := Lib.hid hh2; clear hh2
  have Hbn := Lib.hid hbn; clear hbn
  have Hbn2 := Lib.hid hbn2; clear hbn2
  obtain ⟨i0, hi, hz0, hz1, hz2⟩ := info_parts Try.info71
  have Hi := Lib.hid hi; clear hi
  have Hz0 := Lib.hid hz0; clear hz0
  have Hz1 := Lib.hid hz1; clear hz1
  have Hz2 := Lib.hid hz2; clear hz2
  have hW0 : Below w.heap.size w (w.alloc (.cells #[] 71)) := (Below.refl w.heap.size w).alloc (Nat.le_refl _) _
  have hm0 := World.ownsRow_made (base := w.heap.size) (e := 71) (size := 4) w #[] 0 (Nat.le_refl _) (by unfold maxLen; omega) rfl
  have Hm0 := Lib.hid hm0; clear hm0
  have HnA := Lib.hid (SlP_news (cap := cap1) (w := w.alloc (.cells #[] 71)) (L := A) (a := a1) (fun h => by
    obtain ⟨g, hg, hlt, hP⟩ := Hh1.out h
    exact ⟨g, hg, by simp; omega, hP.below hW0 hlt⟩))
  go_enter Try.func16, Try.ntmps16
  go_wp2_with (refine Ml.wpList_append_own2 _ rfl (.tmp 6) (.tmp 7) 41 41 rfl w.heap.size 71 i0 (.agg #[.int .i64 0, .int .i64 0, .int .i64 0, .int .i64 0]) 4 32 Try.underlying41 Try.underlying41 Hi.out Hz0.out Hz1.out Hz2.out rfl _ 0 [] rfl Hm0.out a1 A.length cap1 (A.flatMap encP) rfl (flat_length encP encP_len A) HnA.out (encP_one A) (by unfold maxLen; omega) (by omega) (by simp) ?_; intro v' w1 hown1 hgrow1)
  simp only [Nat.zero_add, List.nil_append] at hown1
  have hbel1 : Below w.heap.size w w1 := hW0.grown hgrow1 (by simp) (fun q hq => Nat.le_of_eq (Option.some.inj hq))
  have Hown1 := Lib.hid hown1; clear hown1 hgrow1
  have hw1 := hbel1.size
  by_cases hmg : 0 < A.length ∧ 0 < B.length ∧ (pc A (A.length - 1)).page = (pc B 0).page
  · obtain ⟨hA0, hB0, hpg⟩ := hmg
    have hpg' : ((pc A (A.length - 1)).page == (pc B 0).page) = true := by simpa using hpg
    obtain ⟨A', x, rfl⟩ : ∃ A' x, A = A' ++ [x] := ⟨A.dropLast, A.getLast (fun h => by simp [h] at hA0), (List.dropLast_concat_getLast _).symm⟩
    obtain ⟨y, B', rfl⟩ : ∃ y B', B = y :: B' := by
      cases B with
      | nil => simp at hB0
      | cons y B' => exact ⟨y, B', rfl⟩
    have e1 : (A' ++ [x]).length = A'.length + 1 := by simp
    have e2 : (y :: B').length = B'.length + 1 := rfl
    have e3 : pc (A' ++ [x]) A'.length = x := pc_last
    have e4 : pc (y :: B') 0 = y := rfl
    have HJ' : Hid (J = A' ++ (⟨x.page, x.frame, x.fr, x.n + y.n⟩ :: B')) := Lib.hid (HJ.out.trans (joinP_merge x y B' (by rw [e1, Nat.add_sub_cancel, e3, e4] at hpg; exact hpg) A'))
    have hx := Hbn.out A'.length (by simp)
    have hy := Hbn2.out 0 (by simp)
    rw [e3] at hx
    rw [e4] at hy
    obtain ⟨g1, rfl, hg1, hP1⟩ := Hh1.out hA0
    obtain ⟨g2, rfl, hg2, hP2⟩ := Hh2.out hB0
    have q1 := (hP1.below hbel1 hg1) A'.length (by simp)
    have q2 := (hP2.below hbel1 hg2) 0 hB0
    rw [e3] at q1
    rw [e4] at q2
    simp only [Nat.zero_mul, Nat.zero_add] at q2
    obtain ⟨c0, _, _, _⟩ := q1
    obtain ⟨d0, _, _, d3⟩ := q2
    rw [e1, Nat.add_sub_cancel, e3, e4] at hpg'
    clear hP1 hP2 hpg hA0 hB0
    rcases own_cases Hown1.out with ⟨_, h0, _⟩ | ⟨g, cap, rfl, hga, hgb, hgc⟩
    · simp at h0
    have hf0 := Hown1.out.frozenAt (A'.length * 4 + 3)
    have hc3 : w1.cell? ⟨g, A'.length * 4 + 3, none⟩ = some (.int .i64 x.n) := by
      have := PcsAt.of_own Hown1.out A'.length (by simp)
      rw [e3] at this
      exact this.2.2.2
    simp only [e1, e2]
    refine Txt.wp_txt (by kernel_rfl) (by kernel_rfl) ?_
    go_wp2
    refine Txt.DrawPost.mk0 (by rfl) ?_
    go_wp2
    refine Txt.wp_txt (by kernel_rfl) (by kernel_rfl) ?_
    go_wp2
    refine Txt.DrawPost.mk0 (by rfl) ?_
    have hst := Hown1.out.stored (A'.length * 4 + 3) (.int .i64 (x.n + y.n))
    rw [flat_set] at hst
    obtain ⟨hst1, hst2⟩ := hst
    have hbel3 : Below w.heap.size w (w1.setCell ⟨g, A'.length * 4 + 3, none⟩ (.int .i64 (x.n + y.n))).drew.drew := (hbel1.grown hst2 (by omega) (fun q hq => by have := Option.some.inj hq; omega)).drew.drew
    rw [e1] at hst1
    have Hst1 := Lib.hid hst1.drew.drew
    have hle3 : w.heap.size ≤ (w1.setCell ⟨g, A'.length * 4 + 3, none⟩ (.int .i64 (x.n + y.n))).drew.drew.heap.size := hbel3.size
    obtain ⟨g', hg', hlt', hP⟩ := Hh2.out (by simp)
    have : g2 = g' := by simpa using hg'
    subst this
    have HnB := Lib.hid (SlP_tail (w := (w1.setCell ⟨g, A'.length * 4 + 3, none⟩ (.int .i64 (x.n + y.n))).drew.drew) (hP.below hbel3 hlt'))
    clear hst1 hst2 hP hg'
    have hd : ∀ w4, (w1.setCell ⟨g, A'.length * 4 + 3, none⟩ (.int .i64 (x.n + y.n))).drew.drew.grownBy w4 (some g) → Below w.heap.size w w4 := fun w4 hg =>
      hbel3.grown hg hle3 (fun q hq => by have := Option.some.inj hq; omega)
    have Hd := Lib.hid hd; clear hd
    have hlen1 : (A' ++ [(⟨x.page, x.frame, x.fr, x.n + y.n⟩ : Pc)]).flatMap encP ++ B'.flatMap encP = J.flatMap encP ∧ A'.length + 1 + B'.length = J.length := by
      rw [HJ'.out]; constructor
      · simp
      · simp; omega
    have Hlen1 := Lib.hid hlen1; clear hlen1
    by_cases hcap : cap2 = 1
    · subst hcap
      have : B' = [] := by simpa using hc2
      subst this
      go_wp2
      go_ret
      exact ⟨_, rfl, by rw [← Hlen1.out.1, ← Hlen1.out.2]; simpa using Hst1.out, hbel3⟩
    · go_wp2_with ((refine Ml.wpList_append_own2 _ rfl (.tmp 47) (.tmp 48) 41 41 rfl w.heap.size 71 i0 (.agg #[.int .i64 0, .int .i64 0, .int .i64 0, .int .i64 0]) 4 32 Try.underlying41 Try.underlying41 Hi.out Hz0.out Hz1.out Hz2.out rfl _ (A'.length + 1) _ rfl Hst1.out (some ⟨g2, 4, none⟩) B'.length (cap2 - 1) (B'.flatMap encP) rfl (flat_length encP encP_len B') (fun _ => ⟨_, rfl, HnB.out⟩) (encP_one B') (by unfold maxLen; omega) (by omega) hle3 ?_); intro v'' w4 hown4 hgrow4)
      go_ret
      rw [Hlen1.out.1, Hlen1.out.2] at hown4
      exact ⟨_, rfl, hown4, Hd.out w4 hgrow4⟩
  · have hj : joinP A B = A ++ B := joinP_app A B (by
      by_cases h1 : 0 < A.length
      · by_cases h2 : 0 < B.length
        · exact .inr (.inr fun h => hmg ⟨h1, h2, h⟩)
        · exact .inr (.inl (List.length_eq_zero_iff.1 (by omega)))
      · exact .inl (List.length_eq_zero_iff.1 (by omega)))
    have HJ' : Hid (J = A ++ B) := Lib.hid (HJ.out.trans hj)
    clear hj
    have Hmg := Lib.hid hmg; clear hmg
    have hown2 : w1.drew.ownsRow w.heap.size 71 4 v' A.length (A.flatMap encP) := Hown1.out.drew
    have Hown2 := Lib.hid hown2; clear hown2
    have HnB := Lib.hid (SlP_news (cap := cap2) (w := w1.drew) (L := B) (a := a2) (fun h => by
      obtain ⟨g, hg, hlt, hP⟩ := Hh2.out h
      exact ⟨g, hg, by simp; omega, hP.below hbel1.drew hlt⟩))
    have hd : ∀ w2, w1.drew.grownBy w2 v'.ownBlock → Below w.heap.size w w2 := fun w2 hg =>
      hbel1.drew.grown hg (by simp; omega) (fun q hq => (Hown2.out.lt q hq).1)
    have Hd := Lib.hid hd; clear hd
    by_cases hA0 : 0 < A.length
    · by_cases hB0 : 0 < B.length
      · obtain ⟨g1, rfl, hg1, hP1⟩ := Hh1.out hA0
        obtain ⟨g2, rfl, hg2, hP2⟩ := Hh2.out hB0
        obtain ⟨c0, _⟩ := (hP1.below hbel1 hg1) (A.length - 1) (by omega)
        obtain ⟨d0, _⟩ := (hP2.below hbel1 hg2) 0 hB0
        simp only [Nat.zero_mul] at d0
        clear hP1 hP2
        have hne : ((pc A (A.length - 1)).page == (pc B 0).page) = false := by
          simp; exact fun h => Hmg.out ⟨hA0, hB0, h⟩
        refine Txt.wp_txt (by kernel_rfl) (by kernel_rfl) ?_
        go_wp2
        refine Txt.DrawPost.mk0 (by rfl) ?_
        go_wp2_with (refine Ml.wpList_append_own2 _ rfl (.tmp 47) (.tmp 48) 41 41 rfl w.heap.size 71 i0 (.agg #[.int .i64 0, .int .i64 0, .int .i64 0, .int .i64 0]) 4 32 Try.underlying41 Try.underlying41 Hi.out Hz0.out Hz1.out Hz2.out rfl _ A.length (A.flatMap encP) rfl Hown2.out (some ⟨g2, 0, none⟩) B.length cap2 (B.flatMap encP) rfl (flat_length encP encP_len B) HnB.out (encP_one B) (by unfold maxLen; omega) (by omega) (by simp; omega) ?_; intro v'' w2 hown3 hgrow3)
        go_ret
        exact ⟨_, rfl, by rw [HJ'.out]; simpa using hown3, Hd.out w2 hgrow3⟩
      · have : B = [] := List.length_eq_zero_iff.1 (by omega)
        subst this
        clear hB0
        refine Txt.wp_txt (by kernel_rfl) (by kernel_rfl) ?_
        go_wp2
        refine Txt.DrawPost.mk0 (by rfl) ?_
        go_wp2_with (refine Ml.wpList_append_own2 _ rfl (.tmp 47) (.tmp 48) 41 41 rfl w.heap.size 71 i0 (.agg #[.int .i64 0, .int .i64 0, .int .i64 0, .int .i64 0]) 4 32 Try.underlying41 Try.underlying41 Hi.out Hz0.out Hz1.out Hz2.out rfl _ A.length (A.flatMap encP) rfl Hown2.out a2 0 cap2 [] rfl rfl (fun h => absurd h (Nat.lt_irrefl _)) (fun u hu => by cases hu) (by unfold maxLen; omega) (by omega) (by simp; omega) ?_; intro v'' w2 hown3 hgrow3)
        go_ret
        exact ⟨_, rfl, by rw [HJ'.out]; simpa using hown3, Hd.out w2 hgrow3⟩
    · have : A = [] := List.length_eq_zero_iff.1 (by omega)
      subst this
      clear hA0
      refine Txt.wp_txt (by kernel_rfl) (by kernel_rfl) ?_
      go_wp2
      refine Txt.DrawPost.mk0 (by rfl) ?_
      go_wp2_with (refine Ml.wpList_append_own2 _ rfl (.tmp 47) (.tmp 48) 41 41 rfl w.heap.size 71 i0 (.agg #[.int .i64 0, .int .i64 0, .int .i64 0, .int .i64 0]) 4 32 Try.underlying41 Try.underlying41 Hi.out Hz0.out Hz1.out Hz2.out rfl _ 0 [] rfl Hown2.out a2 B.length cap2 (B.flatMap encP) rfl (flat_length encP encP_len B) HnB.out (encP_one B) (by unfold maxLen; omega) (by omega) (by simp; omega) ?_; intro v'' w2 hown3 hgrow3)
      go_ret
      exact ⟨_, rfl, by rw [HJ'.out]; simpa using hown3, Hd.out w2 hgrow3⟩
end Go.Proofs.Ytlomhelcphhinaa
