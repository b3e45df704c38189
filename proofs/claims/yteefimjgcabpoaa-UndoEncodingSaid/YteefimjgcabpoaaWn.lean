/- The wire's byte strings: the reference's Bytes -/
import Derived.Test.YteefimjgcabpoaaWm
namespace Go.Proofs.Yteefimjgcabpoaa
open Go.RowKit Go.Bs Go.Cl Go.Rw Go.Wi
set_option maxRecDepth 100000 in
set_option maxHeartbeats 2000000 in
theorem rBytes_any (g : Nat) (bv : Value) (b : List UInt8) (at_ : Nat) (fl : Bool) (most : Int) (w : World) (h : RdAt 86 w g bv b at_ fl) (hbl : b.length ≤ 1000000) :
    Calls Try.prog 50 #[.pointer (some ⟨g, 0, none⟩), .int .i64 most] w (RetY 86 5 w g bv b (rY b most (at_, fl))) := by
  obtain ⟨ba, bc, rfl⟩ := Raw.slice h.hb
  have hcap : b.length ≤ bc ∧ bc ≤ maxLen := by obtain ⟨_, _, a', c', hv, g3, g4, _⟩ := h.hb; cases hv; exact ⟨g3, g4⟩
  have c1 : w.cell? ⟨g, 1, none⟩ = some (.int .i64 at_) := box_at h.hc rfl
  have hal := h.ha
  have H := Lib.hid h; clear h
  go_enter Try.func50, Try.ntmps50
  go_wp2_with fail
  refine (rBounded_any g _ b at_ fl 0 most _ H.out hbl).mono ?_
  rintro e w1 ⟨rfl, hR⟩
  clear c1
  -- failed, or too short: the position goes back
  have hback : ∀ (s : Nat × Bool), RdAt 86 w1 g (.slice ba b.length bc) b s.1 s.2 → Keep [g] w w1 → RdR 86 w g (.slice ba b.length bc) b (at_, true) ((w1.drew.setCell ⟨g, 2, none⟩ (.bool true)).setCell ⟨g, 1, none⟩ (.int .i64 at_)) := fun s hs hk => by
    have h1 := hs.drew.fail true
    have h2 := h1.1.pos (p := at_) (x := at_) hal rfl
    exact ⟨h2.1, ((hk.drew).trans h1.2 (fun f hf => .inl hf)).trans h2.2 (fun f hf => .inl hf)⟩
  have Hback := Lib.hid hback; clear hback
  have hfl : ∀ s : Nat × Bool, s.2 = true → (rB b 0 most (at_, fl)) = (0, s) → rY b most (at_, fl) = ([], at_, true) := fun s hs he => by
    cases fl
    · unfold rB at he
      unfold rY rdY
      simp only [Bool.false_eq_true, if_false] at he ⊢
      cases hd : rdB b at_ 0 most with
      | none => rfl
      | some q => obtain ⟨x, m⟩ := q; rw [hd] at he; simp at he; rw [← he.2] at hs; simp at hs
    · rfl
  obtain ⟨r, hr⟩ : ∃ r, rB b 0 most (at_, fl) = r := ⟨_, rfl⟩
  have hcase : (∃ s : Nat × Bool, s.2 = true ∧ r = (0, s)) ∨ (∃ (k m : Nat), fl = false ∧ rdB b at_ 0 most = some ((k : Int), m) ∧ r = ((k : Int), at_ + m, false)) := by
    rw [← hr]
    cases fl
    · cases hd : rdB b at_ 0 most with
      | none => exact .inl ⟨(at_, true), rfl, by unfold rB; simp [hd]⟩
      | some q =>
        obtain ⟨x, m⟩ := q
        obtain ⟨_, h0, _⟩ := rdB_le hd
        exact .inr ⟨x.toNat, m, rfl, by rw [show ((x.toNat : Nat) : Int) = x by omega], by unfold rB; simp [hd]; omega⟩
    · exact .inl ⟨(at_, true), rfl, rfl⟩
  rw [hr] at hR ⊢
  rcases hcase with ⟨s, hs, rfl⟩ | ⟨k, m, rfl, hd, rfl⟩
  · have Hy := Lib.hid (hfl s hs hr)
    obtain ⟨p, f⟩ := s
    simp only at hs
    subst hs
    have c2 : w1.cell? ⟨g, 2, none⟩ = some (.bool true) := box_at hR.1.hc rfl
    have c1 : w1.cell? ⟨g, 1, none⟩ = some (.int .i64 p) := box_at hR.1.hc rfl
    have f1 := box_free hR.1.hc 1
    have f2 := box_free hR.1.hc 2
    have Hend := Lib.hid (Hback.out (p, true) hR.1 hR.2)
    have HR := Lib.hid hR
    clear hR hr hfl
    go_wp2
    refine Txt.wp_txt (by kernel_rfl) (by kernel_rfl) ?_
    go_wp2
    refine Txt.DrawPost.mk0 (by rfl) ?_
    go_wp2
    go_ret
    rw [Hy.out]
    refine ⟨_, rfl, brow_nil _ _ _, ?_⟩
    first
      | exact Hend.out
      | (have h1 := HR.out.1.drew.pos (p := at_) (x := at_) hal rfl
         exact ⟨h1.1, HR.out.2.drew.trans h1.2 (fun f hf => .inl hf)⟩)
  · obtain ⟨p, hp⟩ : ∃ p, at_ + m = p := ⟨_, rfl⟩
    rw [hp] at hR
    have hle : p ≤ b.length := hR.1.ha
    have hle' : (p : Int) ≤ b.length := by omega
    have c0 : w1.cell? ⟨g, 0, none⟩ = some (.slice ba b.length bc) := box_at hR.1.hc rfl
    have c1 : w1.cell? ⟨g, 1, none⟩ = some (.int .i64 p) := box_at hR.1.hc rfl
    have c2 : w1.cell? ⟨g, 2, none⟩ = some (.bool false) := box_at hR.1.hc rfl
    have f1 := box_free hR.1.hc 1
    have f2 := box_free hR.1.hc 2
    have HR := Lib.hid hR
    have hs1 := hR.2.size
    clear hR hr hfl
    by_cases hsh : b.length < p + k
    · have hsh' : (b.length : Int) - p < k := by omega
      have Hy := Lib.hid ((IsY.of_short (p := p) hd (by rw [Int.toNat_natCast, hp]; exact hsh)).done)
      have Hend := Lib.hid (Hback.out (p, false) HR.out.1 HR.out.2)
      clear hd hp
      go_wp2
      refine Txt.wp_txt (by kernel_rfl) (by kernel_rfl) ?_
      go_wp2
      refine Txt.DrawPost.mk0 (by rfl) ?_
      go_wp2
      go_ret
      rw [Hy.out]
      exact ⟨_, rfl, brow_nil _ _ _, Hend.out⟩
    · have hsh' : (k : Int) ≤ (b.length : Int) - p := by omega
      have Hy := Lib.hid ((IsY.of_some (q := p + k) hd hp.symm (by omega) rfl).done)
      have hsub := Bytes.sub HR.out.1.hb (show p ≤ p + k by omega) (show p + k ≤ b.length by omega)
      obtain ⟨part, hpart⟩ : ∃ part, (b.take (p + k)).drop p = part := ⟨_, rfl⟩
      have hpl2 : part.length = k := by rw [← hpart]; exact sub_len (by omega)
      rw [hpart] at hsub Hy
      have h1 := HR.out.1.drew.pos (p := p + k) (x := (p : Int) + k) (by omega) (by omega)
      have hsub1 := Raw.keep (F' := [g]) hsub.drew h1.2 (fun f hf => .inl hf) (fun f hf => .inl hf)
      have Hsub := Lib.hid hsub1
      have Hpl2 := Lib.hid hpl2
      have H1 := Lib.hid (show RdR 86 w g (.slice ba b.length bc) b (p + k, false) (w1.drew.setCell ⟨g, 1, none⟩ (.int .i64 ((p : Int) + k))) from ⟨h1.1, HR.out.2.drew.trans h1.2 (fun f hf => .inl hf)⟩)
      have hpk : ((p + k : Nat) : Int) = (p : Int) + k := by omega
      clear hd hp hpart hsub hsub1 hpl2 h1
      have hk0 : (0 : Int) ≤ k := by omega
      have hpkb : (p : Int) + k ≤ b.length := by omega
      rcases Decidable.em (p = bc) with hcf | hcf
      · obtain rfl : k = 0 := by omega
        obtain rfl : part = [] := List.eq_nil_of_length_eq_zero Hpl2.out
        subst hcf
        have HX : Hid (Raw [g] 1 (w1.setCell ⟨g, 1, none⟩ (.int .i64 ((p : Int)))).drew.drew (.slice ba 0 0) 0 (bytesV ([] : List UInt8))) := Lib.hid (Raw.zero' [g] 1 _ _ _ _ rfl (Nat.zero_le _))
        have HR1 : Hid (RdR 86 w g (.slice ba b.length p) b (p + 0, false) (w1.setCell ⟨g, 1, none⟩ (.int .i64 ((p : Int)))).drew.drew) := Lib.hid (by
          have h : RdR 86 w g (.slice ba b.length p) b (p + 0, false) (w1.setCell ⟨g, 1, none⟩ (.int .i64 ((p : Int) + ((0 : Nat) : Int)))).drew.drew := ⟨H1.out.1.drew, H1.out.2.drew⟩
          rw [show (p : Int) + ((0 : Nat) : Int) = p by omega] at h
          exact h)
        have HN := Lib.hid (World.ownsRow_nil (w1.setCell ⟨g, 1, none⟩ (.int .i64 ((p : Int)))).drew.drew w.heap.size 5 1)
        have hsw : w.heap.size ≤ (w1.setCell ⟨g, 1, none⟩ (.int .i64 ((p : Int)))).drew.drew.heap.size := HR1.out.2.size
        go_wp2
        refine Txt.wp_txt (by kernel_rfl) (by kernel_rfl) ?_
        go_wp2
        refine Txt.DrawPost.mk0 (by rfl) ?_
        go_wp2
        refine Txt.wp_txt (by kernel_rfl) (by kernel_rfl) ?_
        go_wp2_with (at_builtin; refine wpList_appF elB Try.underlying22 HN.out HX.out (Below.refl 0 _) rfl _ _ rfl rfl rfl ?c3 ?cB ?c5 ?_)
        case c3 => omega
        case cB => omega
        case c5 => exact hsw
        intro v2 w2 hown2 _ hk2 hn2
        have hk2' : Keep [] (w1.setCell ⟨g, 1, none⟩ (.int .i64 ((p : Int)))).drew.drew w2 := hk2.mono (fun f hf => by simp [Value.ownBlock] at hf)
        have hR2 : RdR 86 w g (.slice ba b.length p) b (p + 0, false) w2 := ⟨HR1.out.1.keep hk2' (by simp) (Raw.to_nil HR1.out.1.hb), HR1.out.2.trans hk2' (fun f hf => by cases hf)⟩
        have hrow : BRow 5 w2 w.heap.size v2 ([] : List UInt8) := by
          show w2.ownsRow w.heap.size 5 1 v2 (([] : List UInt8)).length (bytesV ([] : List UInt8))
          rw [Hpl2.out]; simpa using hown2
        have Hrow := Lib.hid hrow; have HR2 := Lib.hid hR2
        clear hown2 hk2 hn2 hk2' hrow hR2
        go_wp2
        refine Txt.DrawPost.mk0 (by rfl) ?_
        go_wp2
        go_ret
        rw [Hy.out]
        exact ⟨_, rfl, Hrow.out, HR2.out⟩
      · have hcf' : ¬ bc = p := fun e => hcf e.symm
        have HX : Hid (Raw [g] 1 (w1.setCell ⟨g, 1, none⟩ (.int .i64 ((p : Int) + k))).drew.drew (.slice (ba.map fun x => x.add p) (p + k - p) (bc - p)) (p + k - p) (bytesV part)) := Lib.hid (Raw.drew Hsub.out)
        have HR1 : Hid (RdR 86 w g (.slice ba b.length bc) b (p + k, false) (w1.setCell ⟨g, 1, none⟩ (.int .i64 ((p : Int) + k))).drew.drew) := Lib.hid ⟨H1.out.1.drew, H1.out.2.drew⟩
        have HN := Lib.hid (World.ownsRow_nil (w1.setCell ⟨g, 1, none⟩ (.int .i64 ((p : Int) + k))).drew.drew w.heap.size 5 1)
        have hsw : w.heap.size ≤ (w1.setCell ⟨g, 1, none⟩ (.int .i64 ((p : Int) + k))).drew.drew.heap.size := HR1.out.2.size
        go_wp2
        refine Txt.wp_txt (by kernel_rfl) (by kernel_rfl) ?_
        go_wp2
        refine Txt.DrawPost.mk0 (by rfl) ?_
        go_wp2
        refine Txt.wp_txt (by kernel_rfl) (by kernel_rfl) ?_
        go_wp2_with (at_builtin; refine wpList_appF elB Try.underlying22 HN.out HX.out (Below.refl 0 _) rfl _ _ rfl rfl rfl ?c3 ?cB ?c5 ?_)
        case c3 => omega
        case cB => omega
        case c5 => exact hsw
        intro v2 w2 hown2 _ hk2 hn2
        have hk2' : Keep [] (w1.setCell ⟨g, 1, none⟩ (.int .i64 ((p : Int) + k))).drew.drew w2 := hk2.mono (fun f hf => by simp [Value.ownBlock] at hf)
        have hR2 : RdR 86 w g (.slice ba b.length bc) b (p + k, false) w2 := ⟨HR1.out.1.keep hk2' (by simp) (Raw.to_nil HR1.out.1.hb), HR1.out.2.trans hk2' (fun f hf => by cases hf)⟩
        have hrow : BRow 5 w2 w.heap.size v2 part := by
          show w2.ownsRow w.heap.size 5 1 v2 (part).length (bytesV part)
          rw [Hpl2.out]; simpa using hown2
        have Hrow := Lib.hid hrow; have HR2 := Lib.hid hR2
        clear hown2 hk2 hn2 hk2' hrow hR2
        go_wp2
        refine Txt.DrawPost.mk0 (by rfl) ?_
        go_wp2
        go_ret
        rw [Hy.out]
        exact ⟨_, rfl, Hrow.out, HR2.out⟩
end Go.Proofs.Yteefimjgcabpoaa
