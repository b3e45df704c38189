/- The wire's readers: the reference's Int, Bounded, End -/
import Derived.Test.YteefimjgcabpoaaWi
namespace Go.Wi
open Go Go.RowKit Go.Bs Go.Cl Go.Rw
variable {T : TypeId} {w w' : World} {g at_ : Nat} {bv : Value} {b : List UInt8} {fl : Bool}
theorem rI_failed (b : List UInt8) (at_ : Nat) : rI b (at_, true) = (0, at_, true) := rfl
theorem rB_failed (b : List UInt8) (lo hi : Int) (at_ : Nat) : rB b lo hi (at_, true) = (0, at_, true) := rfl
theorem rI_none {b : List UInt8} {at_ : Nat} (h : rdI b at_ = none) : rI b (at_, false) = (0, at_, true) := by unfold rI; simp [h]
theorem rI_some {b : List UInt8} {at_ m : Nat} {x : Int} (h : rdI b at_ = some (x, m)) : rI b (at_, false) = (x, at_ + m, false) := by unfold rI; simp [h]
theorem rB_none {b : List UInt8} {at_ : Nat} {lo hi : Int} (h : rdI b at_ = none) : rB b lo hi (at_, false) = (0, at_, true) := by unfold rB rdB; simp [h]
theorem rB_out {b : List UInt8} {at_ m : Nat} {lo hi x : Int} (h : rdI b at_ = some (x, m)) (hx : ¬ (lo ≤ x ∧ x ≤ hi)) : rB b lo hi (at_, false) = (0, at_, true) := by unfold rB rdB; simp [h, hx]
theorem rB_in {b : List UInt8} {at_ m : Nat} {lo hi x : Int} (h : rdI b at_ = some (x, m)) (hx : lo ≤ x ∧ x ≤ hi) : rB b lo hi (at_, false) = (x, at_ + m, false) := by unfold rB rdB; simp [h, hx]
end Go.Wi
namespace Go.Proofs.Yteefimjgcabpoaa
open Go.RowKit Go.Bs Go.Cl Go.Rw Go.Wi
set_option maxRecDepth 100000 in
set_option maxHeartbeats 1000000 in
theorem rInt_any (g : Nat) (bv : Value) (b : List UInt8) (at_ : Nat) (fl : Bool) (w : World) (h : RdAt 86 w g bv b at_ fl) (hbl : b.length ≤ 1000000) :
    Calls Try.prog 49 #[.pointer (some ⟨g, 0, none⟩)] w fun e w' => e = .returned (.int .i64 (rI b (at_, fl)).1) ∧ RdR 86 w g bv b (rI b (at_, fl)).2 w' := by
  have H := Lib.hid h; clear h
  go_enter Try.func49, Try.ntmps49
  go_wp2_with fail
  refine (rpeek_any g bv b at_ fl _ H.out hbl).mono ?_
  rintro e w1 ⟨n, ok, rfl, hp, hb1⟩
  have h1 := H.out.below hb1
  have hg := H.out.lt
  have c1 : w1.cell? ⟨g, 1, none⟩ = some (.int .i64 at_) := box_at h1.hc rfl
  have f1 := box_free h1.hc 1
  have c2 : w1.cell? ⟨g, 2, none⟩ = some (.bool fl) := box_at h1.hc rfl
  have f2 := box_free h1.hc 2
  have hf := h1.fail true
  have Hf := Lib.hid (show RdR 86 w g bv b (at_, true) (w1.setCell ⟨g, 2, none⟩ (.bool true)) from ⟨hf.1, (Keep.of_below' (F := [g]) hb1).trans hf.2 (fun f hf => .inl hf)⟩)
  clear hf
  have H1 := Lib.hid h1; clear h1
  have Hb1 := Lib.hid hb1; clear hb1
  cases fl
  · unfold IsP at hp
    cases hd : rdI b at_ with
    | none =>
      rw [hd] at hp
      subst hp
      have Hq := Lib.hid (rI_none hd)
      clear hd
      go_wp2
      go_ret
      rw [Hq.out]
      exact ⟨rfl, Hf.out⟩
    | some q =>
      obtain ⟨x, m⟩ := q
      rw [hd] at hp
      obtain ⟨rfl, rfl⟩ := hp
      have Hq := Lib.hid (rI_some hd)
      obtain ⟨hfit, hm, _⟩ := rdI_out hd
      have hle := (rdI_le hd).1
      have Hfit := Lib.hid hfit; have Hm := Lib.hid hm; have Hle := Lib.hid hle
      clear hd hfit hm hle
      have hS : ∀ b ∈ [g], ∃ c e f, w1.heap[b]? = some (.cells c e f) := fun b hb => by rw [List.mem_singleton.1 hb]; exact ⟨_, _, _, H1.out.hc⟩
      have HS := Lib.hid (same_start hS)
      go_wp2
      refine Txt.wp_cut [6] [g] [3] [10] (by kernel_rfl) (by kernel_rfl) (by kernel_rfl) hS ?_
      clear hS
      simp only [Txt.wpCut, List.take_succ_cons, List.take_zero, List.drop_succ_cons, List.drop_zero]
      go_wp2_with fail
      refine (rint_any n _ Hfit.out).mono ?_
      rintro e w2 ⟨v2, rfl, hr2, hb2⟩
      have HS2 := Lib.hid (same_below' HS.out hb2)
      have hb2 : Below w1.heap.size w1 w2 := (Below.refl _ w1).drew.trans hb2
      have h2 := H1.out.below hb2
      obtain ⟨a2, c2', rfl⟩ := own_slice hr2
      rw [← Hm.out]
      have hpos := h2.pos (p := at_ + m) (x := (at_ : Int) + m) Hle.out (by omega)
      have Hend := Lib.hid (show RdR 86 w g bv b (at_ + m, false) (w2.setCell ⟨g, 1, none⟩ (.int .i64 ((at_ : Int) + m))) from ⟨hpos.1, ((Keep.of_below' (F := [g]) Hb1.out).trans (Keep.of_below' (F := [g]) hb2) (fun f hf => .inl hf)).trans hpos.2 (fun f hf => .inl hf)⟩)
      have c1 : w2.cell? ⟨g, 1, none⟩ = some (.int .i64 at_) := box_at h2.hc rfl
      have f1 := box_free h2.hc 1
      have hle2 : ((at_ + m : Nat) : Int) ≤ b.length := by have := Hle.out; omega
      have hle3 : (at_ : Int) + m ≤ b.length := by have := Hle.out; omega
      clear hr2 hb2 hpos h2
      go_wp2
      refine Txt.SegPost.mk HS2.out ?_
      go_wp2
      refine Txt.DrawPost.mk (by rfl) ⟨.head _, trivial⟩ ?_
      go_wp2
      go_ret
      rw [Hq.out]
      exact ⟨rfl, Hend.out⟩
  · clear hp
    go_wp2
    go_ret
    rw [rI_failed]
    refine ⟨rfl, ?_⟩
    first | exact Hf.out | exact ⟨H1.out, Keep.of_below' Hb1.out⟩
set_option maxRecDepth 100000 in
set_option maxHeartbeats 1000000 in
theorem rBounded_any (g : Nat) (bv : Value) (b : List UInt8) (at_ : Nat) (fl : Bool) (lo hi : Int) (w : World) (h : RdAt 86 w g bv b at_ fl) (hbl : b.length ≤ 1000000) :
    Calls Try.prog 48 #[.pointer (some ⟨g, 0, none⟩), .int .i64 lo, .int .i64 hi] w fun e w' => e = .returned (.int .i64 (rB b lo hi (at_, fl)).1) ∧ RdR 86 w g bv b (rB b lo hi (at_, fl)).2 w' := by
  have H := Lib.hid h; clear h
  go_enter Try.func48, Try.ntmps48
  go_wp2_with fail
  refine (rpeek_any g bv b at_ fl _ H.out hbl).mono ?_
  rintro e w1 ⟨n, ok, rfl, hp, hb1⟩
  have h1 := H.out.below hb1
  have c2 : w1.cell? ⟨g, 2, none⟩ = some (.bool fl) := box_at h1.hc rfl
  have f2 := box_free h1.hc 2
  have hf := h1.fail true
  have Hf := Lib.hid (show RdR 86 w g bv b (at_, true) (w1.setCell ⟨g, 2, none⟩ (.bool true)) from ⟨hf.1, (Keep.of_below' (F := [g]) hb1).trans hf.2 (fun f hf => .inl hf)⟩)
  have H1 := Lib.hid (show RdR 86 w g bv b (at_, fl) w1 from ⟨h1, Keep.of_below' (F := [g]) hb1⟩)
  clear hf h1 hb1
  have go : ∀ (s : Nat × Bool) (wf : World), RdR 86 w g bv b s wf → Calls Try.prog 49 #[.pointer (some ⟨g, 0, none⟩)] wf fun e w' => e = .returned (.int .i64 (rI b s).1) ∧ RdR 86 w g bv b (rI b s).2 w' := fun s wf hs => by
    obtain ⟨p, f⟩ := s
    refine (rInt_any g bv b p f wf hs.1 hbl).mono ?_
    rintro e w' ⟨rfl, h1, h2⟩
    exact ⟨rfl, h1, hs.2.trans h2 (fun f hf => .inl hf)⟩
  have Go := Lib.hid go; clear go
  unfold IsP at hp
  have fin : ∀ (s : Nat × Bool) (wf : World), RdR 86 w g bv b s wf → rI b s = rB b lo hi (at_, fl) → Calls Try.prog 49 #[.pointer (some ⟨g, 0, none⟩)] wf fun e w' => e = .returned (.int .i64 (rB b lo hi (at_, fl)).1) ∧ RdR 86 w g bv b (rB b lo hi (at_, fl)).2 w' := fun s wf h1 h2 => by rw [← h2]; exact Go.out s wf h1
  have Fin := Lib.hid fin; clear fin Go
  cases hd : rdI b at_ with
  | none =>
    rw [hd] at hp
    subst hp
    have hr : rI b (at_, true) = rB b lo hi (at_, fl) := by cases fl <;> simp [rI_failed, rB_failed, rB_none hd]
    have Hr := Lib.hid hr; clear hr hd
    cases fl
    · go_wp2_with fail
      refine (Fin.out _ _ Hf.out Hr.out).mono ?_
      rintro e w2 ⟨rfl, h2⟩
      have H2 := Lib.hid h2; clear h2
      go_wp2
      go_ret
      exact ⟨rfl, H2.out⟩
    · go_wp2_with fail
      refine (Fin.out (at_, true) _ (by first | exact Hf.out | exact H1.out) Hr.out).mono ?_
      rintro e w2 ⟨rfl, h2⟩
      have H2 := Lib.hid h2; clear h2
      go_wp2
      go_ret
      exact ⟨rfl, H2.out⟩
  | some q =>
    obtain ⟨x, m⟩ := q
    rw [hd] at hp
    obtain ⟨rfl, rfl⟩ := hp
    by_cases hx : lo ≤ n ∧ n ≤ hi
    · have hr : rI b (at_, fl) = rB b lo hi (at_, fl) := by
        cases fl
        · rw [rI_some hd, rB_in hd hx]
        · rfl
      have Hr := Lib.hid hr; clear hr hd
      obtain ⟨hx1, hx2⟩ := hx
      go_wp2_with fail
      refine (Fin.out _ _ H1.out Hr.out).mono ?_
      rintro e w2 ⟨rfl, h2⟩
      have H2 := Lib.hid h2; clear h2
      go_wp2
      go_ret
      exact ⟨rfl, H2.out⟩
    · have hr : rI b (at_, true) = rB b lo hi (at_, fl) := by
        cases fl
        · rw [rI_failed, rB_out hd hx]
        · rfl
      have Hr := Lib.hid hr; clear hr hd
      have hx' : n < lo ∨ (lo ≤ n ∧ hi < n) := by omega
      clear hx
      rcases hx' with hx1 | ⟨hx1, hx2⟩
      all_goals
        cases fl
        · go_wp2_with fail
          refine (Fin.out _ _ Hf.out Hr.out).mono ?_
          rintro e w2 ⟨rfl, h2⟩
          have H2 := Lib.hid h2; clear h2
          go_wp2
          go_ret
          exact ⟨rfl, H2.out⟩
        · go_wp2_with fail
          refine (Fin.out (at_, true) _ (by first | exact Hf.out | exact H1.out) Hr.out).mono ?_
          rintro e w2 ⟨rfl, h2⟩
          have H2 := Lib.hid h2; clear h2
          go_wp2
          go_ret
          exact ⟨rfl, H2.out⟩
set_option maxHeartbeats 1000000 in
theorem rend_any (g : Nat) (bv : Value) (b : List UInt8) (at_ : Nat) (fl : Bool) (w : World) (h : RdAt 86 w g bv b at_ fl) (hbl : b.length ≤ 1000000) :
    Calls Try.prog 51 #[.pointer (some ⟨g, 0, none⟩)] w fun e w' => e = .returned (.int .i64 (rEnd b (at_, fl))) ∧ Below w.heap.size w w' := by
  obtain ⟨ba, bc, rfl⟩ := Raw.slice h.hb
  have c0 := box_at h.hc (j := 0) rfl
  have c1 := box_at h.hc (j := 1) rfl
  have c2 := box_at h.hc (j := 2) rfl
  have ha := h.ha
  clear h
  have hd := (Below.refl w.heap.size w).drew
  cases fl
  · by_cases hlt : at_ < b.length
    · have hlt' : ((at_ : Int) != b.length) = true := by simp; omega
      have He : Hid (rEnd b (at_, false) = 4) := Lib.hid (by simp [rEnd, hlt])
      go_enter Try.func51, Try.ntmps51
      go_wp2
      refine Txt.wp_txt (by kernel_rfl) (by kernel_rfl) ?_
      go_wp2
      refine Txt.DrawPost.mk0 (by rfl) ?_
      go_wp2
      go_ret
      exact ⟨ret_int He.out.symm, hd⟩
    · obtain rfl : at_ = b.length := by omega
      have He : Hid (rEnd b (b.length, false) = 0) := Lib.hid (by simp [rEnd])
      go_enter Try.func51, Try.ntmps51
      go_wp2
      refine Txt.wp_txt (by kernel_rfl) (by kernel_rfl) ?_
      go_wp2
      refine Txt.DrawPost.mk0 (by rfl) ?_
      go_wp2
      go_ret
      exact ⟨ret_int He.out.symm, hd⟩
  · have He : Hid (rEnd b (at_, true) = 4) := Lib.hid (by simp [rEnd])
    go_enter Try.func51, Try.ntmps51
    go_wp2
    refine Txt.wp_txt (by kernel_rfl) (by kernel_rfl) ?_
    go_wp2
    refine Txt.DrawPost.mk0 (by rfl) ?_
    go_wp2
    go_ret
    exact ⟨ret_int He.out.symm, hd⟩
end Go.Proofs.Yteefimjgcabpoaa
