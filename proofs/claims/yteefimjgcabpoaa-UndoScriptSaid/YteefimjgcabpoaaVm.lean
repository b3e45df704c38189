/- Undo: the reference's Write -/
import Derived.Test.YteefimjgcabpoaaVl
namespace Go.Proofs.Yteefimjgcabpoaa
open Go.RowKit Go.Bs Go.Cl Go.Rw Go.Un
set_option maxRecDepth 100000 in
set_option maxHeartbeats 2000000 in
theorem rwrite_any (bv xv : Value) (b x : List UInt8) (n : Int) (w : World) (hb : b.length ≤ 24000) (hx : x.length ≤ 1000000) (hn1 : -9223372036854775808 ≤ n) (hn2 : n ≤ 9223372036854775807) (hB : Bytes [] w bv b) (hX : Bytes [] w xv x) :
    Calls Try.prog 39 #[bv, .int .i64 n, xv] w (WR w (rwr b n x)) := by
  obtain ⟨xa, xc, rfl⟩ := Raw.slice hB
  obtain ⟨ya, yc, rfl⟩ := Raw.slice hX
  by_cases h1 : n < 0 ∨ (b.length : Int) < n ∨ (b.length : Int) - n < x.length
  · have e1 : rwr b n x = (([], ⟨0, 0, []⟩), 2) := by simp only [rwr]; simp only [h1, if_true]
    rw [e1]; clear e1 hB hX
    have key : ∀ (P : Prop), (n < 0 → P) → (¬ n < 0 → (b.length : Int) < n → P) → (¬ n < 0 → ¬ (b.length : Int) < n → (b.length : Int) - n < x.length → P) → P := fun P a1 a2 a3 => by
      by_cases c1 : n < 0
      · exact a1 c1
      · by_cases c2 : (b.length : Int) < n
        · exact a2 c1 c2
        · exact a3 c1 c2 (by omega)
    refine key _ (fun c1 => ?_) (fun c1 c2 => ?_) (fun c1 c2 c3 => ?_)
    all_goals
      clear h1 key
      go_enter Try.func39, Try.ntmps39
      go_wp2
      refine bodyPost_ret (results_tct rfl _ _ _ _ _ _ _ rfl (heap_alloc_new w _) Try.underlying66 rfl (by kernel_rfl)) rfl ?_
      exact WR.none ((Below.refl _ _).alloc (Nat.le_refl _) _)
  obtain ⟨o, rfl⟩ : ∃ o : Nat, n = o := ⟨n.toNat, by omega⟩
  have e1 : rwr b o x = ((Un.written b o x, ⟨o, b.length, (b.take (o + x.length)).drop o⟩), 0) := by simp only [rwr]; simp only [h1, if_false]; rfl
  rw [e1]; clear e1
  have c2 : ¬ b.length < o := by omega
  have c3 : ¬ (b.length : Int) - o < x.length := by omega
  have hox : o + x.length ≤ b.length := by omega
  obtain ⟨ta, hsl, hT⟩ := Raw.mid hB Try.underlying22 (show (Try.prog.info? 5).map (·.size) = some 1 by kernel_rfl) (lo := o) (hi := o + x.length) (by omega) hox
  rw [Nat.mul_one, Nat.mul_one, bytesV_take, bytesV_drop, Nat.add_sub_cancel_left] at hT
  rw [Nat.add_sub_cancel_left, Int.natCast_add] at hsl
  have hal := (Below.refl w.heap.size w).alloc (Nat.le_refl _) (.cells #[.int .i64 0, .int .i64 0, .slice none 0 0] 66)
  have hal2 := hal.alloc (by simp) (.cells #[] 5)
  have HT := Lib.hid ((hT.alloc (.cells #[.int .i64 0, .int .i64 0, .slice none 0 0] 66)).alloc (.cells #[] 5)); clear hT
  have HB := Lib.hid hB; clear hB
  have HX := Lib.hid hX; clear hX
  have HO := Lib.hid (by have := own_empty (w.alloc (.cells #[.int .i64 0, .int .i64 0, .slice none 0 0] 66)) (w.heap.size + 1) 5 1 (by simp); simpa only [World.size_alloc] using this)
  have HG := Lib.hid ((((Below.refl (w.alloc (.cells #[.int .i64 0, .int .i64 0, .slice none 0 0] 66)).heap.size (w.alloc (.cells #[.int .i64 0, .int .i64 0, .slice none 0 0] 66))).alloc (Nat.le_refl _) (.cells #[] 5)).block w.heap.size (by simp)).trans (heap_alloc_new w _))
  clear h1 hal
  go_enter Try.func39, Try.ntmps39
  go_wp2_with (at_builtin; refine wpList_app el22 Try.underlying22 HO.out HT.out hal2 rfl _ _ rfl rfl rfl ?c3 (Nat.le_succ _) (by simp) ?_)
  case c3 => omega

  intro v1 w1 hown1 hb1 hg1 hs1
  (try simp only [Nat.zero_add, List.nil_append] at hown1); (try simp only [World.size_alloc] at hs1)
  have HG1 := Lib.hid ((hg1.block w.heap.size (by simp; omega) (by simp [Value.ownBlock])).trans HG.out)
  have hz1 : w.heap.size < w1.heap.size := by omega
  have HO1 := Lib.hid (show Bytes (w.heap.size :: old w) w1 v1 ((b.take (o + x.length)).drop o) from Bytes.row hown1 (by simp; omega) (fun f hf => by
    rcases List.mem_cons.1 hf with rfl | hf
    · omega
    · have := old_lt f hf; omega))
  obtain ⟨a1, c1, rfl⟩ := own_slice hown1
  clear hown1 hg1 hs1 hal2
  go_wp2
  obtain ⟨q, hq⟩ : ∃ q, q = w1.heap.size := ⟨_, rfl⟩
  have hal := (Below.refl w1.heap.size w1).alloc (Nat.le_refl _) (.cells #[.int .i64 o, .int .i64 b.length, .slice a1 x.length c1] 66)
  have hnew : (w1.alloc (.cells #[.int .i64 o, .int .i64 b.length, .slice a1 x.length c1] 66)).heap[q]? = some (.cells #[.int .i64 o, .int .i64 b.length, .slice a1 x.length c1] 66 (0, 0)) := by rw [hq]; exact heap_alloc_new w1 _
  have hbel2 := hb1.trans (hal.mono (by omega))
  have HG2 := Lib.hid ((hal.block w.heap.size hz1).trans HG1.out)
  have HO2 := Lib.hid (Raw.below HO1.out hal)
  have HB2 := Lib.hid (Raw.below HB.out hbel2)
  have HX2 := Lib.hid (Raw.below HX.out hbel2)
  have hz2 : w.heap.size < (w1.alloc (.cells #[.int .i64 o, .int .i64 b.length, .slice a1 x.length c1] 66)).heap.size := by simp; omega
  have hqz : q < (w1.alloc (.cells #[.int .i64 o, .int .i64 b.length, .slice a1 x.length c1] 66)).heap.size := by simp; omega
  have hqw : w.heap.size < q := by omega
  rw [← hq]
  obtain ⟨u, hu⟩ : ∃ u, u = w1.alloc (.cells #[.int .i64 o, .int .i64 b.length, .slice a1 x.length c1] 66) := ⟨_, rfl⟩
  rw [← hu] at hnew hbel2 HG2 HO2 HB2 HX2 hz2 hqz ⊢
  have HN := Lib.hid hnew
  have k0 := box_at hnew (j := 0) rfl
  have k1 := box_at hnew (j := 1) rfl
  have k2 := box_at hnew (j := 2) rfl
  have hBl : ∀ b ∈ [q], ∃ c e f, u.heap[b]? = some (.cells c e f) := fun b hb => by rw [List.mem_singleton.1 hb]; exact ⟨_, _, _, hnew⟩
  have HS := Lib.hid (same_start hBl)
  have hbz : b.length ≤ 1000000 := by omega
  clear hal hu hq hnew HG1 HO1 hb1
  refine Txt.Ty.wp_tree [q] [4] [] [4] [0, 1, 2, 4] (.alt [3, 5] (.alt [6, 7] (.done) (.no)) (.no)) (by kernel_rfl) (by kernel_rfl) (by kernel_rfl) (by kernel_rfl) hBl ?_
  clear hBl
  (try simp only [Txt.pick, List.getElem?_cons_succ, List.getElem?_cons_zero])
  go_wp2
  refine Txt.RunPost.mk ?_
  refine Txt.Ty.wpTr_alt ?_ Txt.Ty.wpTr_no
  (try simp only [Txt.pick, List.getElem?_cons_succ, List.getElem?_cons_zero])
  go_wp2_with fail
  refine (rwritten_fr _ _ b x o _ hbz hox HB2.out.drew HX2.out.drew).mono ?_
  rintro e w4 ⟨v, rfl, hv, hb4⟩
  have hs4 := hb4.size
  have hbel4 := hbel2.trans ((Below.refl _ u).drew.trans hb4 |>.mono (Nat.le_of_lt hz2))
  have HS4 := Lib.hid (same_below' HS.out hb4)
  have hG4 : w4.heap[w.heap.size]? = _ := (hb4.block _ hz2).trans HG2.out
  have HG4 := Lib.hid hG4
  have e0 := box_at hG4 (j := 0) rfl
  have e1 := box_at hG4 (j := 1) rfl
  have e2 := box_at hG4 (j := 2) rfl
  have f0 := box_free hG4 0
  have f1 := box_free hG4 1
  have f2 := box_free hG4 2
  have hsz4 : w.heap.size < w4.heap.size := Nat.lt_of_lt_of_le hz2 hs4
  have hk5 : Keep [w.heap.size] w4 (((w4.setCell ⟨w.heap.size, 0, none⟩ (.int .i64 o)).setCell ⟨w.heap.size, 1, none⟩ (.int .i64 b.length)).setCell ⟨w.heap.size, 2, none⟩ (.slice a1 x.length c1)) := (((Keep.refl [w.heap.size] w4).setCell (by simp) _).setCell (by simp) _).setCell (by simp) _
  have hv' : Bytes (w.heap.size :: old w) w4 v (Un.written b o x) := Raw.apart hv (fun f hf => by
    rcases List.mem_cons.1 hf with rfl | hf
    · exact hz2
    · exact Nat.lt_trans (old_lt f hf) hz2)
  have HV5 := Lib.hid (Raw.keep (F' := old w) hv' hk5 (fun f hf => .inl (by rw [List.mem_singleton.1 hf]; simp)) (fun f hf => .inl (List.mem_cons_of_mem _ hf)))
  have HO5 := Lib.hid (Raw.keep (F' := old w) (Raw.below HO2.out.drew hb4) hk5 (fun f hf => .inl (by rw [List.mem_singleton.1 hf]; simp)) (fun f hf => .inl (List.mem_cons_of_mem _ hf)))
  have hbel5 := ((hbel4.setCell (p := ⟨w.heap.size, 0, none⟩) (Nat.le_refl _) (.int .i64 o)).setCell (p := ⟨w.heap.size, 1, none⟩) (Nat.le_refl _) (.int .i64 b.length)).setCell (p := ⟨w.heap.size, 2, none⟩) (Nat.le_refl _) (.slice a1 x.length c1)
  clear hv hb4 hG4 hk5 hv' hs4
  go_wp2
  refine Txt.SegPost.mk (Txt.Ty.Shown.same HS4.out) ?_
  (try simp only [Txt.pick, List.getElem?_cons_succ, List.getElem?_cons_zero])
  go_wp2
  refine Txt.RunPost.mk ?_
  refine Txt.Ty.wpTr_alt ?_ Txt.Ty.wpTr_no
  (try simp only [Txt.pick, List.getElem?_cons_succ, List.getElem?_cons_zero])
  go_wp2
  refine Txt.SegPost.mk (Txt.Ty.Shown.same (same_keep HS4.out ((((Keep.refl [w.heap.size] w4).setCell (by simp) _).setCell (by simp) _).setCell (by simp) _) ?hne)) ?_
  case hne => intro b hb hm; rw [List.mem_singleton.1 hb, List.mem_singleton] at hm; omega
  (try simp only [Txt.pick, List.getElem?_cons_succ, List.getElem?_cons_zero])
  go_wp2
  refine Txt.RunPost.mk ?_
  refine Txt.Ty.wpTr_done (by rfl) ⟨.head _, trivial⟩ ?_
  go_wp2
  refine bodyPost_ret (results_tct rfl _ _ _ _ _ _ _ rfl (heap_set3 HG4.out _ _ _) Try.underlying66 rfl (by kernel_rfl)) rfl ?_
  have hl : ((b.take (o + x.length)).drop o).length = x.length := by simp; omega
  exact ⟨_, _, rfl, HV5.out, HO5.out, hbel5⟩
end Go.Proofs.Yteefimjgcabpoaa
