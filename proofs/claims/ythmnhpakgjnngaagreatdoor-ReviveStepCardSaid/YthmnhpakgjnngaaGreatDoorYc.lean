/- Revive: the reference's Permitted -/
import Derived.Test.YthmnhpakgjnngaaGreatDoorYb
namespace Go.Proofs.YthmnhpakgjnngaaGreatDoor
open Go.RowKit Go.Bs Go.Cl Go.Rw Go.Dt Go.Rv
set_option maxRecDepth 100000 in
set_option maxHeartbeats 16000000 in
theorem rperm_any (m : Ms) (a : Option Addr) (n c : Nat) (w : World) : Calls Tryz.prog 45 #[.agg (msgC m (.slice a n c))] w fun e w' => EndB (fun b => mine m.kind → b = permP m n) e ∧ Below w.heap.size w w' := by
  obtain ⟨ms, md, mk, mq, m0, m1, m2, m3⟩ := m
  unfold msgC
  dsimp only
  obtain ⟨W, hW⟩ : ∃ W, W = w.alloc (.cells #[.int .i64 ms, .int .i64 md, .int .i64 mk, .int .i64 mq, .int .i64 m0, .int .i64 m1, .int .i64 m2, .int .i64 m3, .slice a n c] 31) := ⟨_, rfl⟩
  have hb : Below w.heap.size w W := by rw [hW]; exact (Below.refl w.heap.size w).alloc (Nat.le_refl _) _
  have hx : W.heap[w.heap.size]? = some (.cells #[.int .i64 ms, .int .i64 md, .int .i64 mk, .int .i64 mq, .int .i64 m0, .int .i64 m1, .int .i64 m2, .int .i64 m3, .slice a n c] 31 (0, 0)) := by rw [hW]; exact heap_alloc_new w _
  have c0 := box_at hx (j := 0) rfl
  have c1 := box_at hx (j := 1) rfl
  have c2 := box_at hx (j := 2) rfl
  have c3 := box_at hx (j := 3) rfl
  have c4 := box_at hx (j := 4) rfl
  have c5 := box_at hx (j := 5) rfl
  have c6 := box_at hx (j := 6) rfl
  have c7 := box_at hx (j := 7) rfl
  have c8 := box_at hx (j := 8) rfl
  obtain ⟨X, hX⟩ : ∃ X, X = w.heap.size := ⟨_, rfl⟩
  rw [← hX] at hx c0 c1 c2 c3 c4 c5 c6 c7 c8
  have HXe := Lib.hid hX
  clear hX
  have HB := Lib.hid hb
  have HX := Lib.hid hx
  have HW := Lib.hid hW
  clear hb hx hW
  by_cases h : mine mk
  · rcases h with h | h | h <;> subst h
    · go_enter Tryz.func45, Tryz.ntmps45
      go_upto_region 1 with (fail)
      rw [← HW.out, ← HXe.out]
      clear HW
      go_wp2_with fail
      refine (rform_any _ _).mono ?_
      rintro e w1 ⟨⟨s, z, rfl, hs, hf⟩, rfl⟩
      obtain ⟨rfl, rfl⟩ := hf (.inl rfl)
      go_wp2_with fail
      refine (rends_any ⟨ms, md, 4, mq, m0, m1, m2, m3⟩ a n c _).mono ?_
      rintro e w2 ⟨⟨b1, rfl, he⟩, hb2⟩
      clear c0 c1 c2 c3 c4 c5 c6 c7 c8
      have hx2 := (hb2.block X (Array.getElem?_eq_some_iff.1 HX.out).1).trans HX.out
      have c0 := box_at hx2 (j := 0) rfl
      have c1 := box_at hx2 (j := 1) rfl
      have c2 := box_at hx2 (j := 2) rfl
      have c3 := box_at hx2 (j := 3) rfl
      have c4 := box_at hx2 (j := 4) rfl
      have c5 := box_at hx2 (j := 5) rfl
      have c6 := box_at hx2 (j := 6) rfl
      have c7 := box_at hx2 (j := 7) rfl
      have c8 := box_at hx2 (j := 8) rfl
      have HX2 := Lib.hid hx2
      clear hx2
      have HB2 := Lib.hid (HB.out.trans (hb2.mono HB.out.size))
      clear hb2
      have HE := Lib.hid (he (.inl rfl))
      clear he
      cases b1
      · go_wp2
        go_ret
        refine ⟨?_, HB2.out⟩
        refine ⟨_, rfl, fun _ => ?_⟩
        rw [rperm_eq (by unfold mine; simp)]
        unfold rpermP; rw [← HE.out]; rfl
      · go_wp2_with fail
        refine (rargs_any (rformP 4) ⟨ms, md, 4, mq, m0, m1, m2, m3⟩ _ hs).mono ?_
        rintro e w3 ⟨rfl, hb3⟩
        clear c0 c1 c2 c3 c4 c5 c6 c7 c8
        have hx3 := (hb3.block X (Array.getElem?_eq_some_iff.1 HX2.out).1).trans HX2.out
        have c0 := box_at hx3 (j := 0) rfl
        have c1 := box_at hx3 (j := 1) rfl
        have c2 := box_at hx3 (j := 2) rfl
        have c3 := box_at hx3 (j := 3) rfl
        have c4 := box_at hx3 (j := 4) rfl
        have c5 := box_at hx3 (j := 5) rfl
        have c6 := box_at hx3 (j := 6) rfl
        have c7 := box_at hx3 (j := 7) rfl
        have c8 := box_at hx3 (j := 8) rfl
        have HX3 := Lib.hid hx3
        clear hx3
        have HB3 := Lib.hid (HB2.out.trans (hb3.mono HB2.out.size))
        clear hb3
        obtain ⟨r2, hr2⟩ : ∃ r, rargsP (rformP 4) ⟨ms, md, 4, mq, m0, m1, m2, m3⟩ = r := ⟨_, rfl⟩
        rw [hr2]
        have HR2 := Lib.hid hr2
        clear hr2
        cases r2
        · go_wp2
          go_ret
          refine ⟨?_, HB3.out⟩
          refine ⟨_, rfl, fun _ => ?_⟩
          rw [rperm_eq (by unfold mine; simp)]
          unfold rpermP; rw [← HE.out, HR2.out]; rfl
        · go_wp2
          all_goals
            go_ret
            refine ⟨?_, HB3.out⟩
            refine ⟨_, rfl, fun _ => ?_⟩
            rw [rperm_eq (by unfold mine; simp)]
            unfold rpermP; rw [← HE.out, HR2.out]; simp [*]
            try omega
    · go_enter Tryz.func45, Tryz.ntmps45
      go_upto_region 1 with (fail)
      rw [← HW.out, ← HXe.out]
      clear HW
      go_wp2_with fail
      refine (rform_any _ _).mono ?_
      rintro e w1 ⟨⟨s, z, rfl, hs, hf⟩, rfl⟩
      obtain ⟨rfl, rfl⟩ := hf (.inr (.inl rfl))
      go_wp2_with fail
      refine (rends_any ⟨ms, md, 5, mq, m0, m1, m2, m3⟩ a n c _).mono ?_
      rintro e w2 ⟨⟨b1, rfl, he⟩, hb2⟩
      clear c0 c1 c2 c3 c4 c5 c6 c7 c8
      have hx2 := (hb2.block X (Array.getElem?_eq_some_iff.1 HX.out).1).trans HX.out
      have c0 := box_at hx2 (j := 0) rfl
      have c1 := box_at hx2 (j := 1) rfl
      have c2 := box_at hx2 (j := 2) rfl
      have c3 := box_at hx2 (j := 3) rfl
      have c4 := box_at hx2 (j := 4) rfl
      have c5 := box_at hx2 (j := 5) rfl
      have c6 := box_at hx2 (j := 6) rfl
      have c7 := box_at hx2 (j := 7) rfl
      have c8 := box_at hx2 (j := 8) rfl
      have HX2 := Lib.hid hx2
      clear hx2
      have HB2 := Lib.hid (HB.out.trans (hb2.mono HB.out.size))
      clear hb2
      have HE := Lib.hid (he (.inr (.inl rfl)))
      clear he
      cases b1
      · go_wp2
        go_ret
        refine ⟨?_, HB2.out⟩
        refine ⟨_, rfl, fun _ => ?_⟩
        rw [rperm_eq (by unfold mine; simp)]
        unfold rpermP; rw [← HE.out]; rfl
      · go_wp2_with fail
        refine (rargs_any (rformP 5) ⟨ms, md, 5, mq, m0, m1, m2, m3⟩ _ hs).mono ?_
        rintro e w3 ⟨rfl, hb3⟩
        clear c0 c1 c2 c3 c4 c5 c6 c7 c8
        have hx3 := (hb3.block X (Array.getElem?_eq_some_iff.1 HX2.out).1).trans HX2.out
        have c0 := box_at hx3 (j := 0) rfl
        have c1 := box_at hx3 (j := 1) rfl
        have c2 := box_at hx3 (j := 2) rfl
        have c3 := box_at hx3 (j := 3) rfl
        have c4 := box_at hx3 (j := 4) rfl
        have c5 := box_at hx3 (j := 5) rfl
        have c6 := box_at hx3 (j := 6) rfl
        have c7 := box_at hx3 (j := 7) rfl
        have c8 := box_at hx3 (j := 8) rfl
        have HX3 := Lib.hid hx3
        clear hx3
        have HB3 := Lib.hid (HB2.out.trans (hb3.mono HB2.out.size))
        clear hb3
        obtain ⟨r2, hr2⟩ : ∃ r, rargsP (rformP 5) ⟨ms, md, 5, mq, m0, m1, m2, m3⟩ = r := ⟨_, rfl⟩
        rw [hr2]
        have HR2 := Lib.hid hr2
        clear hr2
        cases r2
        · go_wp2
          go_ret
          refine ⟨?_, HB3.out⟩
          refine ⟨_, rfl, fun _ => ?_⟩
          rw [rperm_eq (by unfold mine; simp)]
          unfold rpermP; rw [← HE.out, HR2.out]; rfl
        · go_wp2
          all_goals
            go_ret
            refine ⟨?_, HB3.out⟩
            refine ⟨_, rfl, fun _ => ?_⟩
            rw [rperm_eq (by unfold mine; simp)]
            unfold rpermP; rw [← HE.out, HR2.out]; simp [*]
            try omega
    · go_enter Tryz.func45, Tryz.ntmps45
      go_upto_region 1 with (fail)
      rw [← HW.out, ← HXe.out]
      clear HW
      go_wp2_with fail
      refine (rform_any _ _).mono ?_
      rintro e w1 ⟨⟨s, z, rfl, hs, hf⟩, rfl⟩
      obtain ⟨rfl, rfl⟩ := hf (.inr (.inr rfl))
      go_wp2_with fail
      refine (rends_any ⟨ms, md, 7, mq, m0, m1, m2, m3⟩ a n c _).mono ?_
      rintro e w2 ⟨⟨b1, rfl, he⟩, hb2⟩
      clear c0 c1 c2 c3 c4 c5 c6 c7 c8
      have hx2 := (hb2.block X (Array.getElem?_eq_some_iff.1 HX.out).1).trans HX.out
      have c0 := box_at hx2 (j := 0) rfl
      have c1 := box_at hx2 (j := 1) rfl
      have c2 := box_at hx2 (j := 2) rfl
      have c3 := box_at hx2 (j := 3) rfl
      have c4 := box_at hx2 (j := 4) rfl
      have c5 := box_at hx2 (j := 5) rfl
      have c6 := box_at hx2 (j := 6) rfl
      have c7 := box_at hx2 (j := 7) rfl
      have c8 := box_at hx2 (j := 8) rfl
      have HX2 := Lib.hid hx2
      clear hx2
      have HB2 := Lib.hid (HB.out.trans (hb2.mono HB.out.size))
      clear hb2
      have HE := Lib.hid (he (.inr (.inr rfl)))
      clear he
      cases b1
      · go_wp2
        go_ret
        refine ⟨?_, HB2.out⟩
        refine ⟨_, rfl, fun _ => ?_⟩
        rw [rperm_eq (by unfold mine; simp)]
        unfold rpermP; rw [← HE.out]; rfl
      · go_wp2_with fail
        refine (rargs_any (rformP 7) ⟨ms, md, 7, mq, m0, m1, m2, m3⟩ _ hs).mono ?_
        rintro e w3 ⟨rfl, hb3⟩
        clear c0 c1 c2 c3 c4 c5 c6 c7 c8
        have hx3 := (hb3.block X (Array.getElem?_eq_some_iff.1 HX2.out).1).trans HX2.out
        have c0 := box_at hx3 (j := 0) rfl
        have c1 := box_at hx3 (j := 1) rfl
        have c2 := box_at hx3 (j := 2) rfl
        have c3 := box_at hx3 (j := 3) rfl
        have c4 := box_at hx3 (j := 4) rfl
        have c5 := box_at hx3 (j := 5) rfl
        have c6 := box_at hx3 (j := 6) rfl
        have c7 := box_at hx3 (j := 7) rfl
        have c8 := box_at hx3 (j := 8) rfl
        have HX3 := Lib.hid hx3
        clear hx3
        have HB3 := Lib.hid (HB2.out.trans (hb3.mono HB2.out.size))
        clear hb3
        obtain ⟨r2, hr2⟩ : ∃ r, rargsP (rformP 7) ⟨ms, md, 7, mq, m0, m1, m2, m3⟩ = r := ⟨_, rfl⟩
        rw [hr2]
        have HR2 := Lib.hid hr2
        clear hr2
        cases r2
        · go_wp2
          go_ret
          refine ⟨?_, HB3.out⟩
          refine ⟨_, rfl, fun _ => ?_⟩
          rw [rperm_eq (by unfold mine; simp)]
          unfold rpermP; rw [← HE.out, HR2.out]; rfl
        · go_wp2
          all_goals
            go_ret
            refine ⟨?_, HB3.out⟩
            refine ⟨_, rfl, fun _ => ?_⟩
            rw [rperm_eq (by unfold mine; simp)]
            unfold rpermP; rw [← HE.out, HR2.out]; simp [*]
            try omega
  · have H := Lib.hid h; clear h
    have h4 : mk ≠ 4 := fun e => H.out (.inl e)
    have h5 : mk ≠ 5 := fun e => H.out (.inr (.inl e))
    have h7 : mk ≠ 7 := fun e => H.out (.inr (.inr e))
    go_enter Tryz.func45, Tryz.ntmps45
    go_upto_region 1 with (fail)
    rw [← HW.out, ← HXe.out]
    clear HW
    go_wp2_with fail
    refine (rform_any _ _).mono ?_
    rintro e w1 ⟨⟨s, z, rfl, hs, hf⟩, rfl⟩
    clear hf
    go_wp2_with fail
    refine (rends_any ⟨ms, md, mk, mq, m0, m1, m2, m3⟩ a n c _).mono ?_
    rintro e w2 ⟨⟨b1, rfl, he⟩, hb2⟩
    clear c0 c1 c2 c3 c4 c5 c6 c7 c8
    have hx2 := (hb2.block X (Array.getElem?_eq_some_iff.1 HX.out).1).trans HX.out
    have c0 := box_at hx2 (j := 0) rfl
    have c1 := box_at hx2 (j := 1) rfl
    have c2 := box_at hx2 (j := 2) rfl
    have c3 := box_at hx2 (j := 3) rfl
    have c4 := box_at hx2 (j := 4) rfl
    have c5 := box_at hx2 (j := 5) rfl
    have c6 := box_at hx2 (j := 6) rfl
    have c7 := box_at hx2 (j := 7) rfl
    have c8 := box_at hx2 (j := 8) rfl
    have HX2 := Lib.hid hx2
    clear hx2
    have HB2 := Lib.hid (HB.out.trans (hb2.mono HB.out.size))
    clear hb2
    clear he
    cases b1
    · go_wp2
      go_ret
      refine ⟨?_, HB2.out⟩
      exact ⟨_, rfl, fun h => absurd h H.out⟩
    · go_wp2_with fail
      refine (rargs_any s ⟨ms, md, mk, mq, m0, m1, m2, m3⟩ _ hs).mono ?_
      rintro e w3 ⟨rfl, hb3⟩
      clear c0 c1 c2 c3 c4 c5 c6 c7 c8
      have hx3 := (hb3.block X (Array.getElem?_eq_some_iff.1 HX2.out).1).trans HX2.out
      have c0 := box_at hx3 (j := 0) rfl
      have c1 := box_at hx3 (j := 1) rfl
      have c2 := box_at hx3 (j := 2) rfl
      have c3 := box_at hx3 (j := 3) rfl
      have c4 := box_at hx3 (j := 4) rfl
      have c5 := box_at hx3 (j := 5) rfl
      have c6 := box_at hx3 (j := 6) rfl
      have c7 := box_at hx3 (j := 7) rfl
      have c8 := box_at hx3 (j := 8) rfl
      have HX3 := Lib.hid hx3
      clear hx3
      have HB3 := Lib.hid (HB2.out.trans (hb3.mono HB2.out.size))
      clear hb3
      obtain ⟨r2, hr2⟩ : ∃ r, rargsP s ⟨ms, md, mk, mq, m0, m1, m2, m3⟩ = r := ⟨_, rfl⟩
      rw [hr2]
      have HR2 := Lib.hid hr2
      clear hr2
      cases r2
      · go_wp2
        go_ret
        refine ⟨?_, HB3.out⟩
        exact ⟨_, rfl, fun h => absurd h H.out⟩
      · go_wp2_with (first
          | (go_at_call 76; refine (rblock_any ⟨ms, md, mk, mq, m0, m1, m2, m3⟩ a n c _).mono ?_; rintro e w4 ⟨⟨b, rfl, _⟩, hb4⟩; have HB4 := HB3.out.trans (hb4.mono HB3.out.size))
          | (go_at_call 77; refine (ruser_any _ _).mono ?_; rintro e w4 ⟨rfl, rfl⟩))
        all_goals
          go_ret
          refine ⟨?_, by first | exact HB4 | exact HB3.out⟩
          exact ⟨_, rfl, fun h => absurd h H.out⟩
end Go.Proofs.YthmnhpakgjnngaaGreatDoor
