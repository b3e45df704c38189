/- Undo: records copied with their bytes: From, To; the reference's Few -/
import Derived.Test.YteefimjgcabpoaaUg
namespace Go.Un
open Go Go.RowKit Go.Bs Go.Cl Go.Rw
/-- a row of the call's own that reads as the records rs; their bytes lie elsewhere -/
def RecsO (w : World) (base e : Nat) (v : Value) (l : List Rec) : Prop := ∃ rs : List (Rec × Value), rs.map (·.1) = l ∧ w.ownsRow base e 3 v rs.length (rs.flatMap encR) ∧ ∀ p ∈ rs, Bytes v.ownBlock.toList w p.2 p.1.old
theorem encR_one {w : World} {F : List Nat} {rs : List (Rec × Value)} (h : ∀ p ∈ rs, Bytes F w p.2 p.1.old) : ∀ u ∈ rs.flatMap encR, u.oneCell' = true := by
  intro u hu
  obtain ⟨p, hp, hu⟩ := List.mem_flatMap.1 hu
  obtain ⟨a, c, hv⟩ := Raw.slice (h p hp)
  simp [encR, hv] at hu
  rcases hu with rfl | rfl | rfl <;> rfl
theorem RecsO.recs {w : World} {base e : Nat} {v : Value} {l : List Rec} (h : RecsO w base e v l) : ∃ rs : List (Rec × Value), rs.map (·.1) = l ∧ Recs [] w v rs := by
  obtain ⟨rs, h1, h2, h3⟩ := h
  exact ⟨rs, h1, Raw.of_own h2 (encR_one h3) (fun f h => by cases h), fun p hp => Raw.to_nil (h3 p hp)⟩
end Go.Un
namespace Go.Proofs.Yteefimjgcabpoaa
open Go.RowKit Go.Bs Go.Cl Go.Rw Go.Un
theorem el23 : Rw.Elem Try.prog 23 66 3 40 (.agg #[.int .i64 0, .int .i64 0, .slice none 0 0]) := ⟨Try.underlying23, by kernel_rfl, rfl, by decide⟩

set_option maxRecDepth 100000 in
set_option maxHeartbeats 1000000 in
theorem to_any (rv : Value) (rs : List (Rec × Value)) (w : World) (hl : rs.length ≤ 1000000) (hR : Recs [] w rv rs) (hold : ∀ p ∈ rs, p.1.old.length ≤ 1000000) :
    Calls Try.prog 12 #[rv] w fun e w' => ∃ v, e = .returned v ∧ RecsO w' w.heap.size 65 v (rs.map (·.1)) ∧ Below w.heap.size w w' := by
  obtain ⟨ra, rc, rfl⟩ := Raw.slice hR.1
  have HR := Lib.hid hR; clear hR
  have Hold := Lib.hid hold; clear hold
  go_enter Try.func12, Try.ntmps12
  go_wp2
  go_loopw [3, 4] (fun v i wr => ∃ k : Nat, k ≤ rs.length ∧ i = .int .i64 k ∧ RecsO wr w.heap.size 65 v ((rs.take k).map (·.1)) ∧ Below w.heap.size w wr) (fun _ i _ => rs.length - (intOf i).toNat)
  case atStart => exact ⟨0, Nat.zero_le _, rfl, ⟨[], rfl, World.ownsRow_nil _ _ _ _, fun p h => by cases h⟩, Below.refl _ _⟩
  case round =>
    obtain ⟨k, hk, rfl, ⟨ts, hts, hown, hby⟩, hbel⟩ := hrel
    have hsz := hbel.size
    have htl : ts.length = k := by have := congrArg List.length hts; simp at this; omega
    obtain ⟨oa, oc, rfl⟩ := own_slice hown
    by_cases hlt : k < rs.length
    · obtain ⟨b0, off, rfl, hb0, h0, h1, h2, hm, qa, qc, hq⟩ := (HR.out.below hbel).elem hlt
      have HQ0 := Lib.hid (HR.out.2 _ hm)
      have hold := Hold.out _ hm
      have htk : (rs.take (k + 1)).map (·.1) = (rs.take k).map (·.1) ++ [(recAt rs k).1] := by rw [List.take_add_one, recAt_get hlt]; simp
      obtain ⟨q, hqq⟩ : ∃ q, q = recAt rs k := ⟨_, rfl⟩
      rw [← hqq] at h0 h1 h2 hq HQ0 hold htk
      obtain ⟨⟨qo, ql, qb⟩, qv⟩ := q
      simp only at h0 h1 h2 hq hold htk
      subst hq
      have hb0w : b0 < w.heap.size := by
        rcases Raw.cases HR.out.1 with ⟨h, _⟩ | ⟨_, b', o', c', hv, _, _, hb, _⟩
        · omega
        · cases hv; exact hb
      have Hts := Lib.hid hts
      have Htk := Lib.hid htk
      have Hown := Lib.hid hown
      have Hby := Lib.hid hby
      have Htl := Lib.hid htl
      clear hts htk hown hby hqq htl
      have hS : ∀ b ∈ [b0], ∃ c e f, wr.heap[b]? = some (.cells c e f) := fun b hb => by rw [List.mem_singleton.1 hb]; exact Txt.cells_of h0
      go_wp2
      refine Txt.wp_cut [12, 6, 2, 1] [b0] [5, 10, 16] [] (by kernel_rfl) (by kernel_rfl) (by kernel_rfl) hS ?_
      simp only [Txt.wpCut, List.take_succ_cons, List.take_zero, List.drop_succ_cons, List.drop_zero]
      go_wp2
      have hal1 := (Below.refl wr.heap.size wr.drew).alloc (Nat.le_refl _) (.cells #[] 5)
      have HS1 := Lib.hid (same_below (same_start hS) hal1 (fun b hb => by rw [List.mem_singleton.1 hb]; exact hb0))
      refine Txt.SegPost.mk HS1.out ?_
      refine wpList_gen (fun z => Below wr.heap.size wr z ∧ wr.heap.size < z.heap.size ∧ Txt.SameB [b0] wr.drew z ∧ z.ownsRow wr.heap.size 5 1 (.slice (some ⟨wr.heap.size, 0, none⟩) 0 0) 0 []) ⟨(Below.refl wr.heap.size wr).drew.trans hal1, by simp, HS1.out, own_empty wr.drew _ _ _ (Nat.le_refl _)⟩ ?_
      clear hal1 HS1
      rintro w1 ⟨hb1, hs1, hS1, hown1⟩
      have HS1 := Lib.hid hS1; clear hS1
      have Hown1 := Lib.hid hown1; clear hown1
      have h0 := (hb1.cell (p := ⟨b0, off + k * 3, none⟩) hb0).trans h0
      have h1 := (hb1.cell (p := ⟨b0, off + k * 3 + 1, none⟩) hb0).trans h1
      have h2 := (hb1.cell (p := ⟨b0, off + k * 3 + 2, none⟩) hb0).trans h2
      have hbel1 := hbel.trans (hb1.mono hsz)
      go_wp2_with (at_builtin; refine wpList_app el22 Try.underlying22 Hown1.out (Raw.below HQ0.out hbel1) hb1 rfl _ _ rfl rfl rfl ?c3 (Nat.le_refl _) ?c5 ?_)
      case c3 => omega
      case c5 => omega
      intro v2 w2 hown2 hb2 hg2 hs2
      obtain ⟨a2, c2, rfl⟩ := own_slice hown2
      have HB2 : Hid (Bytes [] w2 (.slice a2 (0 + qb.length) c2) qb) := Lib.hid (by
        have h : w2.ownsRow wr.heap.size 5 1 (.slice a2 (0 + qb.length) c2) (0 + qb.length) (bytesV qb) := by simpa using hown2
        exact Bytes.of_own h (by omega))
      have HF2 := Lib.hid (show Bytes (Value.ownBlock (.slice oa ts.length oc)).toList w2 (.slice a2 (0 + qb.length) c2) qb from Raw.of_own (k := 1) (base := wr.heap.size) (e := 5) (by
        have h : w2.ownsRow wr.heap.size 5 1 (.slice a2 (0 + qb.length) c2) (0 + qb.length) (bytesV qb) := by simpa using hown2
        rw [Nat.zero_add] at h ⊢; exact h) (bytesV_one _) (fun f hf => (Hown.out.lt f (by simpa using hf)).2))
      have hS2 : Txt.SameB [b0] wr.drew w2 := fun b hb => by
        rw [List.mem_singleton.1 hb]
        have e := hb2.block b0 hb0
        exact ⟨by obtain ⟨c, e', f, hh⟩ := hS b0 (by simp); exact ⟨c, e', f, e.trans hh⟩, e⟩
      have HS2 := Lib.hid hS2
      refine Txt.SegPost.mk hS2 ?_
      clear hown2 hg2 hS2
      have hbel2 := hbel.trans (hb2.mono hsz)
      have h0 := (hb2.cell (p := ⟨b0, off + k * 3, none⟩) hb0).trans ((hb1.cell (p := ⟨b0, off + k * 3, none⟩) hb0).symm.trans h0)
      have h1 := (hb2.cell (p := ⟨b0, off + k * 3 + 1, none⟩) hb0).trans ((hb1.cell (p := ⟨b0, off + k * 3 + 1, none⟩) hb0).symm.trans h1)
      have h2 := (hb2.cell (p := ⟨b0, off + k * 3 + 2, none⟩) hb0).trans ((hb1.cell (p := ⟨b0, off + k * 3 + 2, none⟩) hb0).symm.trans h2)
      have Hown2 := Lib.hid (show w2.ownsRow w.heap.size 65 3 (.slice oa ts.length oc) ts.length (ts.flatMap encR) from own_below Hown.out hb2 (Nat.le_refl _))
      go_wp2
      have hal3 := (Below.refl w2.heap.size w2).alloc (Nat.le_refl _) (.cells #[.int .i64 qo, .int .i64 ql, .slice a2 (0 + qb.length) c2] 65)
      simp only [Nat.zero_add] at hal3 HB2 HF2
      have HS3 := Lib.hid (same_below HS2.out hal3 (fun b hb => by rw [List.mem_singleton.1 hb]; have := hb2.size; omega))
      refine Txt.SegPost.mk HS3.out ?_
      refine wpList_gen (fun z => Below w2.heap.size w2 z ∧ w2.heap.size < z.heap.size ∧ Txt.SameB [b0] wr.drew z ∧ z.heap[w2.heap.size]? = some (.cells #[.int .i64 qo, .int .i64 ql, .slice a2 qb.length c2] 65 (0, 0))) ⟨hal3, by simp, HS3.out, heap_alloc_new w2 _⟩ ?_
      clear hal3 HS3
      rintro w3 ⟨hb3, hs3, hS3, hx3⟩
      have HS3 := Lib.hid hS3; clear hS3
      have hbel3 := hbel2.trans (hb3.mono (by have := hbel2.size; omega))
      have HF3 := Lib.hid (Raw.below HF2.out hb3)
      have Hown3 := Lib.hid (own_below Hown2.out hb3 (Nat.le_refl _))
      have Hby3 := Lib.hid (show ∀ p ∈ ts, Bytes (Value.ownBlock (.slice oa ts.length oc)).toList w3 p.2 p.1.old from fun p hp => Raw.below (Raw.below (Hby.out p hp) hb2) hb3)
      have Hx3 := Lib.hid (show Raw [] 3 w3 (.slice (some ⟨w2.heap.size, 0, none⟩) 1 1) 1 (encR (⟨qo, ql, qb⟩, .slice a2 qb.length c2)) from Raw.of_block hx3 (by intro h; cases h) (by intro u hu; simp [encR] at hu; rcases hu with rfl | rfl | rfl <;> rfl) rfl (Nat.le_refl _) (by unfold maxLen; omega))
      clear hx3
      go_wp2_with (at_builtin; refine wpList_appF el29 Try.underlying29 Hown3.out Hx3.out hbel3 rfl _ _ rfl rfl rfl ?c3 (Nat.le_refl _) ?c5 ?_)
      case c3 => have := Htl.out; omega
      case c5 => exact hbel3.size
      intro v4 w4 hown4 hb4 hk4 hF4
      have Hrel : Hid (RecsO w4 w.heap.size 65 v4 ((rs.take (k + 1)).map (·.1))) := Lib.hid ⟨ts ++ [(⟨qo, ql, qb⟩, .slice a2 qb.length c2)], by rw [Htk.out, List.map_append, Hts.out]; rfl, by rw [List.length_append, List.flatMap_append]; simpa using hown4, fun p hp => by
        rcases List.mem_append.1 hp with hp | hp
        · exact (Hby3.out p hp).keep hk4 (fun f hf => .inl hf) (by simpa using hF4)
        · rw [List.mem_singleton.1 hp]
          exact Raw.keep HF3.out hk4 (fun f hf => .inl hf) (by simpa using hF4)⟩
      have hS4 : Txt.SameB [b0] wr.drew w4 := fun b hb => by
        have hne : b ∉ (Value.ownBlock (.slice oa ts.length oc)).toList := fun hm => by
          have h := (Hown.out.lt b (by simpa using hm)).1
          rw [List.mem_singleton.1 hb] at h
          omega
        obtain ⟨h1, h2⟩ := HS3.out b hb
        have e := hk4.block b (by rw [List.mem_singleton.1 hb]; have := hb2.size; omega) hne
        exact ⟨by obtain ⟨c, e', f, hh⟩ := h1; exact ⟨c, e', f, e.trans hh⟩, e.trans h2⟩
      refine Txt.SegPost.mk hS4 ?_
      clear hown4 hk4 hF4 hS4 HS3
      go_wp2
      refine Txt.DrawPost.mk (by rfl) ⟨.head _, .head _, .head _, trivial⟩ ?_
      go_wp2
      go_roundw
      case rel => exact ⟨k + 1, by omega, by go_num, Hrel.out, hb4⟩
      case measure => simp [intOf]; omega
    · obtain rfl : k = rs.length := by omega
      have Hrel : Hid (RecsO wr w.heap.size 65 (.slice oa ts.length oc) (rs.map (·.1))) := Lib.hid ⟨ts, by simpa using hts, hown, hby⟩
      clear hts hown hby
      go_wp2
      go_ret
      exact ⟨_, rfl, Hrel.out, hbel⟩

set_option maxRecDepth 100000 in
set_option maxHeartbeats 1000000 in
theorem from_any (rv : Value) (rs : List (Rec × Value)) (w : World) (hl : rs.length ≤ 1000000) (hR : Recs [] w rv rs) (hold : ∀ p ∈ rs, p.1.old.length ≤ 1000000) :
    Calls Try.prog 22 #[rv] w fun e w' => ∃ v, e = .returned v ∧ RecsO w' w.heap.size 66 v (rs.map (·.1)) ∧ Below w.heap.size w w' := by
  obtain ⟨ra, rc, rfl⟩ := Raw.slice hR.1
  have HR := Lib.hid hR; clear hR
  have Hold := Lib.hid hold; clear hold
  go_enter Try.func22, Try.ntmps22
  go_wp2
  go_loopw [3, 4] (fun v i wr => ∃ k : Nat, k ≤ rs.length ∧ i = .int .i64 k ∧ RecsO wr w.heap.size 66 v ((rs.take k).map (·.1)) ∧ Below w.heap.size w wr) (fun _ i _ => rs.length - (intOf i).toNat)
  case atStart => exact ⟨0, Nat.zero_le _, rfl, ⟨[], rfl, World.ownsRow_nil _ _ _ _, fun p h => by cases h⟩, Below.refl _ _⟩
  case round =>
    obtain ⟨k, hk, rfl, ⟨ts, hts, hown, hby⟩, hbel⟩ := hrel
    have hsz := hbel.size
    have htl : ts.length = k := by have := congrArg List.length hts; simp at this; omega
    obtain ⟨oa, oc, rfl⟩ := own_slice hown
    by_cases hlt : k < rs.length
    · obtain ⟨b0, off, rfl, hb0, h0, h1, h2, hm, qa, qc, hq⟩ := (HR.out.below hbel).elem hlt
      have HQ0 := Lib.hid (HR.out.2 _ hm)
      have hold := Hold.out _ hm
      have htk : (rs.take (k + 1)).map (·.1) = (rs.take k).map (·.1) ++ [(recAt rs k).1] := by rw [List.take_add_one, recAt_get hlt]; simp
      obtain ⟨q, hqq⟩ : ∃ q, q = recAt rs k := ⟨_, rfl⟩
      rw [← hqq] at h0 h1 h2 hq HQ0 hold htk
      obtain ⟨⟨qo, ql, qb⟩, qv⟩ := q
      simp only at h0 h1 h2 hq hold htk
      subst hq
      have hb0w : b0 < w.heap.size := by
        rcases Raw.cases HR.out.1 with ⟨h, _⟩ | ⟨_, b', o', c', hv, _, _, hb, _⟩
        · omega
        · cases hv; exact hb
      have Hts := Lib.hid hts
      have Htk := Lib.hid htk
      have Hown := Lib.hid hown
      have Hby := Lib.hid hby
      have Htl := Lib.hid htl
      clear hts htk hown hby hqq htl
      have hS : ∀ b ∈ [b0], ∃ c e f, wr.heap[b]? = some (.cells c e f) := fun b hb => by rw [List.mem_singleton.1 hb]; exact Txt.cells_of h0
      go_wp2
      refine Txt.wp_cut [12, 6, 2, 1] [b0] [5, 10, 16] [] (by kernel_rfl) (by kernel_rfl) (by kernel_rfl) hS ?_
      simp only [Txt.wpCut, List.take_succ_cons, List.take_zero, List.drop_succ_cons, List.drop_zero]
      go_wp2
      have hal1 := (Below.refl wr.heap.size wr.drew).alloc (Nat.le_refl _) (.cells #[] 5)
      have HS1 := Lib.hid (same_below (same_start hS) hal1 (fun b hb => by rw [List.mem_singleton.1 hb]; exact hb0))
      refine Txt.SegPost.mk HS1.out ?_
      refine wpList_gen (fun z => Below wr.heap.size wr z ∧ wr.heap.size < z.heap.size ∧ Txt.SameB [b0] wr.drew z ∧ z.ownsRow wr.heap.size 5 1 (.slice (some ⟨wr.heap.size, 0, none⟩) 0 0) 0 []) ⟨(Below.refl wr.heap.size wr).drew.trans hal1, by simp, HS1.out, own_empty wr.drew _ _ _ (Nat.le_refl _)⟩ ?_
      clear hal1 HS1
      rintro w1 ⟨hb1, hs1, hS1, hown1⟩
      have HS1 := Lib.hid hS1; clear hS1
      have Hown1 := Lib.hid hown1; clear hown1
      have h0 := (hb1.cell (p := ⟨b0, off + k * 3, none⟩) hb0).trans h0
      have h1 := (hb1.cell (p := ⟨b0, off + k * 3 + 1, none⟩) hb0).trans h1
      have h2 := (hb1.cell (p := ⟨b0, off + k * 3 + 2, none⟩) hb0).trans h2
      have hbel1 := hbel.trans (hb1.mono hsz)
      go_wp2_with (at_builtin; refine wpList_app el22 Try.underlying22 Hown1.out (Raw.below HQ0.out hbel1) hb1 rfl _ _ rfl rfl rfl ?c3 (Nat.le_refl _) ?c5 ?_)
      case c3 => omega
      case c5 => omega
      intro v2 w2 hown2 hb2 hg2 hs2
      obtain ⟨a2, c2, rfl⟩ := own_slice hown2
      have HB2 : Hid (Bytes [] w2 (.slice a2 (0 + qb.length) c2) qb) := Lib.hid (by
        have h : w2.ownsRow wr.heap.size 5 1 (.slice a2 (0 + qb.length) c2) (0 + qb.length) (bytesV qb) := by simpa using hown2
        exact Bytes.of_own h (by omega))
      have HF2 := Lib.hid (show Bytes (Value.ownBlock (.slice oa ts.length oc)).toList w2 (.slice a2 (0 + qb.length) c2) qb from Raw.of_own (k := 1) (base := wr.heap.size) (e := 5) (by
        have h : w2.ownsRow wr.heap.size 5 1 (.slice a2 (0 + qb.length) c2) (0 + qb.length) (bytesV qb) := by simpa using hown2
        rw [Nat.zero_add] at h ⊢; exact h) (bytesV_one _) (fun f hf => (Hown.out.lt f (by simpa using hf)).2))
      have hS2 : Txt.SameB [b0] wr.drew w2 := fun b hb => by
        rw [List.mem_singleton.1 hb]
        have e := hb2.block b0 hb0
        exact ⟨by obtain ⟨c, e', f, hh⟩ := hS b0 (by simp); exact ⟨c, e', f, e.trans hh⟩, e⟩
      have HS2 := Lib.hid hS2
      refine Txt.SegPost.mk hS2 ?_
      clear hown2 hg2 hS2
      have hbel2 := hbel.trans (hb2.mono hsz)
      have h0 := (hb2.cell (p := ⟨b0, off + k * 3, none⟩) hb0).trans ((hb1.cell (p := ⟨b0, off + k * 3, none⟩) hb0).symm.trans h0)
      have h1 := (hb2.cell (p := ⟨b0, off + k * 3 + 1, none⟩) hb0).trans ((hb1.cell (p := ⟨b0, off + k * 3 + 1, none⟩) hb0).symm.trans h1)
      have h2 := (hb2.cell (p := ⟨b0, off + k * 3 + 2, none⟩) hb0).trans ((hb1.cell (p := ⟨b0, off + k * 3 + 2, none⟩) hb0).symm.trans h2)
      have Hown2 := Lib.hid (show w2.ownsRow w.heap.size 66 3 (.slice oa ts.length oc) ts.length (ts.flatMap encR) from own_below Hown.out hb2 (Nat.le_refl _))
      go_wp2
      have hal3 := (Below.refl w2.heap.size w2).alloc (Nat.le_refl _) (.cells #[.int .i64 qo, .int .i64 ql, .slice a2 (0 + qb.length) c2] 66)
      simp only [Nat.zero_add] at hal3 HB2 HF2
      have HS3 := Lib.hid (same_below HS2.out hal3 (fun b hb => by rw [List.mem_singleton.1 hb]; have := hb2.size; omega))
      refine Txt.SegPost.mk HS3.out ?_
      refine wpList_gen (fun z => Below w2.heap.size w2 z ∧ w2.heap.size < z.heap.size ∧ Txt.SameB [b0] wr.drew z ∧ z.heap[w2.heap.size]? = some (.cells #[.int .i64 qo, .int .i64 ql, .slice a2 qb.length c2] 66 (0, 0))) ⟨hal3, by simp, HS3.out, heap_alloc_new w2 _⟩ ?_
      clear hal3 HS3
      rintro w3 ⟨hb3, hs3, hS3, hx3⟩
      have HS3 := Lib.hid hS3; clear hS3
      have hbel3 := hbel2.trans (hb3.mono (by have := hbel2.size; omega))
      have HF3 := Lib.hid (Raw.below HF2.out hb3)
      have Hown3 := Lib.hid (own_below Hown2.out hb3 (Nat.le_refl _))
      have Hby3 := Lib.hid (show ∀ p ∈ ts, Bytes (Value.ownBlock (.slice oa ts.length oc)).toList w3 p.2 p.1.old from fun p hp => Raw.below (Raw.below (Hby.out p hp) hb2) hb3)
      have Hx3 := Lib.hid (show Raw [] 3 w3 (.slice (some ⟨w2.heap.size, 0, none⟩) 1 1) 1 (encR (⟨qo, ql, qb⟩, .slice a2 qb.length c2)) from Raw.of_block hx3 (by intro h; cases h) (by intro u hu; simp [encR] at hu; rcases hu with rfl | rfl | rfl <;> rfl) rfl (Nat.le_refl _) (by unfold maxLen; omega))
      clear hx3
      go_wp2_with (at_builtin; refine wpList_appF el23 Try.underlying23 Hown3.out Hx3.out hbel3 rfl _ _ rfl rfl rfl ?c3 (Nat.le_refl _) ?c5 ?_)
      case c3 => have := Htl.out; omega
      case c5 => exact hbel3.size
      intro v4 w4 hown4 hb4 hk4 hF4
      have Hrel : Hid (RecsO w4 w.heap.size 66 v4 ((rs.take (k + 1)).map (·.1))) := Lib.hid ⟨ts ++ [(⟨qo, ql, qb⟩, .slice a2 qb.length c2)], by rw [Htk.out, List.map_append, Hts.out]; rfl, by rw [List.length_append, List.flatMap_append]; simpa using hown4, fun p hp => by
        rcases List.mem_append.1 hp with hp | hp
        · exact (Hby3.out p hp).keep hk4 (fun f hf => .inl hf) (by simpa using hF4)
        · rw [List.mem_singleton.1 hp]
          exact Raw.keep HF3.out hk4 (fun f hf => .inl hf) (by simpa using hF4)⟩
      have hS4 : Txt.SameB [b0] wr.drew w4 := fun b hb => by
        have hne : b ∉ (Value.ownBlock (.slice oa ts.length oc)).toList := fun hm => by
          have h := (Hown.out.lt b (by simpa using hm)).1
          rw [List.mem_singleton.1 hb] at h
          omega
        obtain ⟨h1, h2⟩ := HS3.out b hb
        have e := hk4.block b (by rw [List.mem_singleton.1 hb]; have := hb2.size; omega) hne
        exact ⟨by obtain ⟨c, e', f, hh⟩ := h1; exact ⟨c, e', f, e.trans hh⟩, e.trans h2⟩
      refine Txt.SegPost.mk hS4 ?_
      clear hown4 hk4 hF4 hS4 HS3
      go_wp2
      refine Txt.DrawPost.mk (by rfl) ⟨.head _, .head _, .head _, trivial⟩ ?_
      go_wp2
      go_roundw
      case rel => exact ⟨k + 1, by omega, by go_num, Hrel.out, hb4⟩
      case measure => simp [intOf]; omega
    · obtain rfl : k = rs.length := by omega
      have Hrel : Hid (RecsO wr w.heap.size 66 (.slice oa ts.length oc) (rs.map (·.1))) := Lib.hid ⟨ts, by simpa using hts, hown, hby⟩
      clear hts hown hby
      go_wp2
      go_ret
      exact ⟨_, rfl, Hrel.out, hbel⟩

def fewB (l : List Rec) : Bool := l.all (fun r => decide (r.old.length ≤ 400) && decide (r.len ≤ 2000)) && decide (l.length ≤ 30)
theorem fewB_not {rs : List (Rec × Value)} {k : Nat} (hk : k < rs.length) (h : ¬ ((recAt rs k).1.old.length ≤ 400 ∧ (recAt rs k).1.len ≤ 2000)) : fewB (rs.map (·.1)) = false := by
  unfold fewB
  rw [Bool.and_eq_false_iff]
  refine .inl (List.all_eq_false.2 ⟨_, List.mem_map.2 ⟨_, List.mem_of_getElem? (recAt_get hk), rfl⟩, ?_⟩)
  simp; omega
theorem fewB_all {rs : List (Rec × Value)} (h : ∀ k, k < rs.length → (recAt rs k).1.old.length ≤ 400 ∧ (recAt rs k).1.len ≤ 2000) : fewB (rs.map (·.1)) = decide (rs.length ≤ 30) := by
  unfold fewB
  have : (rs.map (·.1)).all (fun r => decide (r.old.length ≤ 400) && decide (r.len ≤ 2000)) = true := by
    rw [List.all_eq_true]
    intro r hr
    obtain ⟨p, hp, rfl⟩ := List.mem_map.1 hr
    obtain ⟨j, hj, rfl⟩ := List.mem_iff_getElem.1 hp
    have := h j hj
    have hg := recAt_get hj
    rw [List.getElem?_eq_getElem hj] at hg
    rw [Option.some.inj hg]; simp [this]
  rw [this]; simp
set_option maxRecDepth 100000 in
set_option maxHeartbeats 1000000 in
theorem few_any (rv : Value) (rs : List (Rec × Value)) (w : World) (hl : rs.length ≤ 9223372036854775807) (hR : Recs [] w rv rs) :
    Calls Try.prog 10 #[rv] w fun e w' => e = .returned (.bool (fewB (rs.map (·.1)))) ∧ w = w' := by
  obtain ⟨ra, rc, rfl⟩ := Raw.slice hR.1
  have HR := Lib.hid hR; clear hR
  go_enter Try.func10, Try.ntmps10
  go_wp2
  go_loop [3] (fun i => ∃ k : Nat, k ≤ rs.length ∧ i = .int .i64 k ∧ ∀ j, j < k → (recAt rs j).1.old.length ≤ 400 ∧ (recAt rs j).1.len ≤ 2000) (fun i => rs.length - (intOf i).toNat)
  case atStart => exact ⟨0, Nat.zero_le _, rfl, fun j h => absurd h (Nat.not_lt_zero _)⟩
  case round =>
    obtain ⟨k, hk, rfl, hok⟩ := hrel
    have Hok := Lib.hid hok; clear hok
    by_cases hlt : k < rs.length
    · obtain ⟨b0, off, rfl, hb0, h0, h1, h2, hm, qa, qc, hq⟩ := HR.out.elem hlt
      obtain ⟨q, hqq⟩ : ∃ q, q = recAt rs k := ⟨_, rfl⟩
      rw [← hqq] at h0 h1 h2 hq
      have Hqq := Lib.hid hqq
      obtain ⟨⟨qo, ql, qb⟩, qv⟩ := q
      simp only at h0 h1 h2 hq
      subst hq
      clear hqq h0 hm
      by_cases hgood : qb.length ≤ 400 ∧ ql ≤ 2000
      · obtain ⟨g1, g2⟩ := hgood
        have g1' : (qb.length : Int) ≤ 400 := by omega
        go_wp2
        go_round
        case rel => exact ⟨k + 1, by omega, by go_num, fun j hj => by
          by_cases hjk : j < k
          · exact Hok.out j hjk
          · obtain rfl : j = k := by omega
            rw [← Hqq.out]; exact ⟨g1, g2⟩⟩
        case measure => simp [intOf]; omega
      · have Hbad := Lib.hid (fewB_not hlt (by rw [← Hqq.out]; exact hgood))
        have Hgood := Lib.hid hgood
        clear hgood
        go_wp2
        all_goals first
          | (go_ret; exact ⟨ret_bool Hbad.out.symm, rfl⟩)
          | (exfalso; have := Hgood.out; omega)
    · obtain rfl : k = rs.length := by omega
      have Hall := Lib.hid (fewB_all Hok.out)
      go_wp2
      go_ret
      exact ⟨ret_bool (by rw [Hall.out]; simp; omega), rfl⟩

set_option maxRecDepth 100000 in
set_option maxHeartbeats 1000000 in
theorem recover_any (bv rv : Value) (b : List UInt8) (rs : List (Rec × Value)) (w : World) (hb : b.length ≤ 1000000) (hl : rs.length ≤ 1000000) (hB : Bytes [] w bv b) (hR : Recs [] w rv rs) (hf : ∀ p ∈ rs, p.1.fits) :
    Calls Try.prog 11 #[bv, rv] w (RetI (recover b (rs.map (·.1))) w) := by
  obtain ⟨ra, rc, rfl⟩ := Raw.slice hR.1
  obtain ⟨ba, bc, rfl⟩ := Raw.slice hB
  have HR := Lib.hid hR; clear hR
  have HB := Lib.hid hB; clear hB
  have HF := Lib.hid hf; clear hf
  go_enter Try.func11, Try.ntmps11
  go_wp2
  go_loopw [10] (fun i wr => ∃ k : Nat, k ≤ rs.length ∧ i = .int .i64 k ∧ (∀ j, j < k → (recAt rs j).1.ok = true) ∧ Below w.heap.size w wr) (fun i _ => rs.length - (intOf i).toNat)
  case atStart => exact ⟨0, Nat.zero_le _, rfl, fun j h => absurd h (Nat.not_lt_zero _), Below.refl _ _⟩
  case round =>
    obtain ⟨k, hk, rfl, hok, hbel⟩ := hrel
    have Hok := Lib.hid hok; clear hok
    have hsz := hbel.size
    by_cases hlt : k < rs.length
    · obtain ⟨b0, off, rfl, _, h0, h1, h2, hm, qa, qc, hq⟩ := (HR.out.below hbel).elem hlt
      obtain ⟨hf1, hf2, hf3, hf4⟩ := HF.out _ hm
      obtain ⟨q, hqq⟩ : ∃ q, q = recAt rs k := ⟨_, rfl⟩
      rw [← hqq] at h0 h1 h2 hq hf1 hf2 hf3 hf4
      have Hqq := Lib.hid hqq; clear hqq hm
      obtain ⟨⟨qo, ql, qb⟩, qv⟩ := q
      simp only at h0 h1 h2 hq hf1 hf2 hf3 hf4
      subst hq
      have hbel1 := hbel.alloc hsz (.cells #[.int .i64 qo, .int .i64 ql, .slice qa qb.length qc] 65)
      go_wp2
      all_goals first
        | (go_ret2
           have hno : (recAt rs k).1.ok = false := by
             rw [← Hqq.out]
             simp only [Rec.ok]
             rw [Bool.eq_false_iff]
             simp
             omega
           have e : recover b (rs.map (·.1)) = ([], 1) := by unfold recover; rw [all_not_ok hlt hno]; rfl
           rw [e]
           exact ⟨_, rfl, Raw.empty _ _ _, hbel1⟩)
        | (go_roundw
           case rel => exact ⟨k + 1, by omega, by go_num, fun j hj => by
             by_cases hjk : j < k
             · exact Hok.out j hjk
             · obtain rfl : j = k := by omega
               rw [← Hqq.out, Rec.ok_iff]
               simp only
               omega, hbel1⟩
           case measure => simp [intOf]; omega)
    · obtain rfl : k = rs.length := by omega
      have hall := all_ok_of Hok.out
      have e : recover b (rs.map (·.1)) = (takeAll b (rs.map (·.1)), 0) := by unfold recover; rw [hall]; rfl
      have Hrec := Lib.hid e
      clear e hall
      go_wp2_with fail
      refine (clone33 _ hb (Raw.below HB.out hbel)).mono ?_
      rintro e w1 ⟨v1, rfl, hown1, hb1⟩
      obtain ⟨a1, c1, rfl⟩ := own_slice hown1
      have hbel1 := hbel.trans (hb1.mono hsz)
      have Hown1 := Lib.hid hown1; clear hown1
      have HR1 := Lib.hid (HR.out.below hbel1)
      go_wp2_with fail
      refine (taken_any _ _ b rs _ _ hl hb Hown1.out hb1.size HR1.out.1 (fun p hp => ?_) HR1.out.2).mono ?_
      · obtain ⟨j, hj, rfl⟩ := List.mem_iff_getElem.1 hp
        have := Hok.out j hj
        have hg := recAt_get hj
        rw [List.getElem?_eq_getElem hj] at hg
        rw [Option.some.inj hg]; exact this
      rintro e w2 ⟨v2, rfl, hown2, hb2⟩
      obtain ⟨a2, c2, rfl⟩ := own_slice hown2
      have hbel2 := hbel1.trans (hb2.mono hbel1.size)
      have HB2 := Lib.hid (Bytes.of_own (F := []) hown2 rfl)
      clear hown2
      go_wp2
      go_ret2
      rw [Hrec.out]
      exact ⟨_, rfl, HB2.out, hbel2⟩
end Go.Proofs.Yteefimjgcabpoaa
