/- Undo: the reference's model: Back -/
import Derived.Test.YteefimjgcabpoaaVn
namespace Go.Proofs.Yteefimjgcabpoaa
open Go.RowKit Go.Bs Go.Cl Go.Rw Go.Un
set_option maxRecDepth 100000 in
set_option maxHeartbeats 2000000 in
theorem next_back {F : List Nat} (iv pv rv dv : Value) (m : Md) (n : Int) (d : List UInt8) (w : World) (hl : m.past.length = m.rs.length) (hrl : m.rs.length ≤ 100000) (hn1 : -9223372036854775808 ≤ n) (hn2 : n ≤ 9223372036854775807) (hf : m.fin = true) (h : MdAt F w iv pv rv m) (hd : Bytes [] w dv d) :
    Calls Try.prog 20 #[.agg #[iv, pv, rv, .bool m.fin], .agg #[.int .i64 3, .int .i64 n, dv]] w (NX F w (nxt m 3 n d)) := by
  obtain ⟨img, past, rs, fin⟩ := m
  simp only at hf hl hrl
  subst hf
  have h' := h
  obtain ⟨h1, ⟨pvs, h2, h3, h4⟩, rvs, h5, h6⟩ := h'
  simp only at h1 h3 h6
  have hpl : past.length = pvs.length := by rw [← h3, List.length_map]
  have hrv : rs.length = rvs.length := by rw [← h6, List.length_map]
  obtain ⟨ia, ic, rfl⟩ := Raw.slice h1
  obtain ⟨pa, pc, rfl⟩ := Raw.slice h2
  obtain ⟨ra, rc, rfl⟩ := Raw.slice h5.1
  obtain ⟨da, dc, rfl⟩ := Raw.slice hd
  have H := Lib.hid h
  have hpr : pvs.length = rvs.length := by omega
  have hrvl : rvs.length ≤ 100000 := by omega
  by_cases hb : n < 0 ∨ (rs.length : Int) < n
  · have e1 : nxt ⟨img, past, rs, true⟩ 3 n d = (⟨img, past, rs, true⟩, 2) := by simp [nxt, hb]
    rw [e1]; clear e1
    have key : ∀ (P : Prop), (n < 0 → P) → (¬ n < 0 → (rvs.length : Int) < n → P) → P := fun P a1 a2 => by
      by_cases c1 : n < 0
      · exact a1 c1
      · exact a2 c1 (by omega)
    clear h h1 h2 h3 h4 h5 h6 hd hl hpl hpr hrv
    refine key _ (fun c1 => ?_) (fun c1 c2 => ?_)
    all_goals
      clear key hb
      go_enter Try.func20, Try.ntmps20
      go_wp2
      refine bodyPost_ret (results_ct rfl _ _ _ _ _ _ _ rfl (heap_alloc3 _ _ _ _) Try.underlying48 rfl (by kernel_rfl)) rfl ?_
      exact ⟨_, _, _, rfl, (H.out.below (below_alloc3 _ _ _ _)).fin _, below_alloc3 _ _ _ _⟩
  obtain ⟨k, rfl⟩ : ∃ k : Nat, n = k := ⟨n.toNat, by omega⟩
  have hkr : k ≤ rvs.length := by omega
  have e1 : nxt ⟨img, past, rs, true⟩ 3 k d = (⟨if k < rs.length then past.getD k [] else img, past.take k, rs.take k, true⟩, 0) := by
    simp only [nxt]; simp only [hb, if_false]; rfl
  rw [e1]; clear e1
  have hkp : k ≤ pvs.length := by omega
  have hb2 : ¬ rvs.length < k := by omega
  obtain ⟨ta, hsl, hT⟩ := Raw.upto h2 Try.underlying46 (show (Try.prog.info? 22).map (·.size) = some 1 by kernel_rfl) (hi := k) hkp
  obtain ⟨tr, hsr, hR⟩ := Raw.upto h5.1 Try.underlying23 (show (Try.prog.info? 66).map (·.size) = some 3 by kernel_rfl) (hi := k) hkr
  have hPast : ∃ pvs' : List (List UInt8 × Value), Raw F 1 w (.slice ta k pc) pvs'.length (pvs'.map (·.2)) ∧ pvs'.map (·.1) = past.take k ∧ ∀ p ∈ pvs', Bytes F w p.2 p.1 :=
    ⟨pvs.take k, by rw [Nat.mul_one] at hT; rw [List.length_take, Nat.min_eq_left hkp, List.map_take]; exact hT, by rw [List.map_take, h3], fun p hp => h4 p (List.mem_of_mem_take hp)⟩
  have hRecs : ∃ rs' : List (Rec × Value), Recs F w (.slice tr k rc) rs' ∧ rs'.map (·.1) = rs.take k :=
    ⟨rvs.take k, ⟨by rw [List.length_take, Nat.min_eq_left hkr]; rw [flat_take encR encR_len] at hR; exact hR, fun p hp => h5.2 p (List.mem_of_mem_take hp)⟩, by rw [List.map_take, h6]⟩
  have HP := Lib.hid hPast
  have HR := Lib.hid hRecs
  have hbl : ∀ (A B C : Array Value) (x y z : Nat), ∀ b ∈ [w.heap.size + 1], ∃ c e f, (((w.alloc (.cells A x)).alloc (.cells B y)).alloc (.cells C z)).heap[b]? = some (.cells c e f) := fun A B C x y z b hb => by
    rw [List.mem_singleton.1 hb]; exact ⟨_, _, _, heap_alloc3_1 _ _ _ _⟩
  have Hbl := Lib.hid hbl
  have hsm : ∀ (A A' B C : Array Value) (x y z : Nat), Txt.SameB [w.heap.size + 1] (((w.alloc (.cells A x)).alloc (.cells B y)).alloc (.cells C z)).drew (((w.alloc (.cells A' x)).alloc (.cells B y)).alloc (.cells C z)).drew := fun A A' B C x y z b hb => by
    rw [List.mem_singleton.1 hb]
    have e1 := heap_alloc3_1 w (.cells A x) (.cells B y) (.cells C z)
    have e2 := heap_alloc3_1 w (.cells A' x) (.cells B y) (.cells C z)
    exact ⟨⟨_, _, _, e2⟩, e2.trans e1.symm⟩
  have Hsm := Lib.hid hsm
  clear hT hR hPast hRecs hbl hsm hb h5 h6 h hd
  by_cases hk : k < rvs.length
  · rcases Raw.cases h2 with ⟨h0, _⟩ | ⟨_, b, off, c, hv, _, _, hb, _, hc⟩
    · omega
    cases hv
    obtain ⟨q, hq⟩ : ∃ q, pvs[k]? = some q := ⟨pvs[k]'(by omega), by simp⟩
    have hq0 : past.getD k [] = q.1 := by rw [← h3, List.getD_eq_getElem?_getD, List.getElem?_map, hq]; rfl
    have hcell : w.cell? ⟨b, off + k, none⟩ = some q.2 := hc k _ (by rw [List.getElem?_map, hq]; rfl)
    have hB := h4 q (List.mem_of_getElem? hq)
    obtain ⟨ql, qv⟩ := q
    simp only at hq0 hcell hB
    obtain ⟨qa, qc, rfl⟩ := Raw.slice hB
    have HB := Lib.hid hB
    have e2 : (if k < rs.length then past.getD k [] else img) = ql := by rw [hrv, if_pos hk, hq0]
    simp only [e2]
    have hkp' : k < pvs.length := by omega
    have hcell3 : ∀ A B C, (((w.alloc A).alloc B).alloc C).cell? ⟨b, off + k, none⟩ = some (.slice qa ql.length qc) := fun A B C => ((below_alloc3 w A B C).cell (p := ⟨b, off + k, none⟩) hb).trans hcell
    clear h1 h2 h3 h4 hpl hq hq0 hc hB e2 hcell hl hpr hrv
    go_enter Try.func20, Try.ntmps20
    go_wp2
    refine Txt.Ty.wp_tree [w.heap.size + 1] [8] [13] [1, 3, 6, 8] [0, 1, 2, 3, 4, 5, 6, 7, 8, 9, 10] (.alt [11, 12] (.alt [13] (.done) (.no)) (.no)) (by kernel_rfl) (by kernel_rfl) (by kernel_rfl) (by kernel_rfl) (Hbl.out _ _ _ _ _ _) ?_
    (try simp only [Txt.pick, List.getElem?_cons_succ, List.getElem?_cons_zero])
    go_wp2
    refine Txt.RunPost.mk ?_
    refine Txt.Ty.wpTr_alt ?_ Txt.Ty.wpTr_no
    (try simp only [Txt.pick, List.getElem?_cons_succ, List.getElem?_cons_zero])
    go_wp2
    refine Txt.SegPost.mk (Txt.Ty.Shown.same (Hsm.out _ _ _ _ _ _ _)) ?_
    (try simp only [Txt.pick, List.getElem?_cons_succ, List.getElem?_cons_zero])
    go_wp2
    refine Txt.RunPost.mk ?_
    refine Txt.Ty.wpTr_alt ?_ Txt.Ty.wpTr_no
    (try simp only [Txt.pick, List.getElem?_cons_succ, List.getElem?_cons_zero])
    go_wp2
    refine Txt.SegPost.mk (Txt.Ty.Shown.last rfl) ?_
    refine Txt.RunPost.mk ?_
    refine Txt.Ty.wpTr_done (by rfl) ⟨.head _, trivial⟩ ?_
    go_wp2
    refine bodyPost_ret (results_ct rfl _ _ _ _ _ _ _ rfl (heap_alloc3 _ _ _ _) Try.underlying48 rfl (by kernel_rfl)) rfl ?_
    exact ⟨_, _, _, rfl, MdAt.below (m := ⟨ql, past.take k, rs.take k, true⟩) ⟨HB.out, HP.out, HR.out⟩ (below_alloc3 w _ _ _).drew, (below_alloc3 w _ _ _).drew⟩
  · have e2 : (if k < rs.length then past.getD k [] else img) = img := by rw [hrv, if_neg hk]
    simp only [e2]
    have H1 := Lib.hid h1
    obtain rfl : k = rvs.length := by omega
    clear hk hb2 hkr
    clear h1 h2 h3 h4 hpl e2 hl hrv hpr
    go_enter Try.func20, Try.ntmps20
    go_wp2
    refine Txt.Ty.wp_tree [w.heap.size + 1] [8] [13] [1, 3, 6, 8] [0, 1, 2, 3, 4, 5, 6, 7, 8, 9, 10] (.alt [11, 12] (.alt [13] (.done) (.no)) (.no)) (by kernel_rfl) (by kernel_rfl) (by kernel_rfl) (by kernel_rfl) (Hbl.out _ _ _ _ _ _) ?_
    (try simp only [Txt.pick, List.getElem?_cons_succ, List.getElem?_cons_zero])
    go_wp2
    refine Txt.RunPost.mk ?_
    refine Txt.Ty.wpTr_alt ?_ Txt.Ty.wpTr_no
    (try simp only [Txt.pick, List.getElem?_cons_succ, List.getElem?_cons_zero])
    go_wp2
    refine Txt.SegPost.mk (Txt.Ty.Shown.same (Hsm.out _ _ _ _ _ _ _)) ?_
    (try simp only [Txt.pick, List.getElem?_cons_succ, List.getElem?_cons_zero])
    go_wp2
    refine Txt.RunPost.mk ?_
    refine Txt.Ty.wpTr_alt ?_ Txt.Ty.wpTr_no
    (try simp only [Txt.pick, List.getElem?_cons_succ, List.getElem?_cons_zero])
    go_wp2
    refine Txt.SegPost.mk (Txt.Ty.Shown.last rfl) ?_
    refine Txt.RunPost.mk ?_
    refine Txt.Ty.wpTr_done (by rfl) ⟨.head _, trivial⟩ ?_
    go_wp2
    refine bodyPost_ret (results_ct rfl _ _ _ _ _ _ _ rfl (heap_alloc3 _ _ _ _) Try.underlying48 rfl (by kernel_rfl)) rfl ?_
    exact ⟨_, _, _, rfl, MdAt.below (m := ⟨img, past.take rvs.length, rs.take rvs.length, true⟩) ⟨H1.out, HP.out, HR.out⟩ (below_alloc3 w _ _ _).drew, (below_alloc3 w _ _ _).drew⟩
end Go.Proofs.Yteefimjgcabpoaa
