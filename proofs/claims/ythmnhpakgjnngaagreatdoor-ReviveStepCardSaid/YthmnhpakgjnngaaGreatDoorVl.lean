/- Revive: New, Failures, report, awake -/
import Derived.Test.YthmnhpakgjnngaaGreatDoorVk
import Derived.WalkMore
namespace Go.Rv
open Go Go.RowKit Go.Bs Go.Cl Go.Rw Go.Dt
theorem perm_failed : ∀ t : Fin 9, ∀ c : Fin 6, permP ⟨0, 1, 5, 1, 2 + (t.val : Int), 1 + (c.val : Int), 0, 0⟩ 0 = true := by decide +kernel
theorem perm_failed' {t c : Int} (h1 : 2 ≤ t) (h2 : t ≤ 10) (h3 : 1 ≤ c) (h4 : c ≤ 6) : permP ⟨0, 1, 5, 1, t, c, 0, 0⟩ 0 = true := by
  have := perm_failed ⟨(t - 2).toNat, by omega⟩ ⟨(c - 1).toNat, by omega⟩
  have e1 : 2 + (((t - 2).toNat : Nat) : Int) = t := by omega
  have e2 : 1 + (((c - 1).toNat : Nat) : Int) = c := by omega
  simpa only [e1, e2] using this
def S0 : Sv := ⟨0, [], []⟩
theorem S0_ok : VOk S0 := ⟨OkB.start, fun x hx => (by cases hx), rfl⟩
theorem cnt_fail {l : List Hs} (h : validH l = true) (t c u : Int) : cntH (failH l t c) u = if u = t then min (cntH l t + 1) 1000000000 else cntH l u := by
  unfold failH; exact seen_put (validH_srt h) _ u
theorem effs_at {w : World} {a : Option Addr} {n c : Nat} {l : List Ef} (h : SlE w (.slice a n c) l) {i : Nat} {x : Ef} (hi : l[i]? = some x) :
    ∃ b off, a = some ⟨b, off, none⟩ ∧ b < w.heap.size ∧ ∀ j u, (encE x)[j]? = some u → w.cell? ⟨b, off + i * 15 + j, none⟩ = some u := by
  have hil : i < l.length := (List.getElem?_eq_some_iff.1 hi).1
  rcases Raw.cases h with ⟨h0, _⟩ | ⟨_, b, off, cap, hv, _, _, hb, _, hc⟩
  · omega
  · cases hv
    refine ⟨b, off, rfl, hb, fun j u hj => ?_⟩
    have hj15 : j < 15 := by have := (List.getElem?_eq_some_iff.1 hj).1; simpa [encE_len] using this
    have := hc _ _ ((flat_get encE encE_len l i j x hi hj15).trans hj)
    rw [Nat.add_assoc]; exact this
end Go.Rv
namespace Go.Proofs.YthmnhpakgjnngaaGreatDoor
open Go.RowKit Go.Bs Go.Cl Go.Rw Go.Dt Go.Rv
set_option maxHeartbeats 1000000 in
@[go_sem] theorem eqA4 (a b c d a' b' c' d' : Int) (w : World) : (Op.equalIn 10000 29 (.agg #[.int .i64 a, .int .i64 b, .int .i64 c, .int .i64 d]) (.agg #[.int .i64 a', .int .i64 b', .int .i64 c', .int .i64 d'])).run Tryz.prog w = .ok (a == a' && (b == b' && (c == c' && d == d'))) w := by
  have p0 : ∀ (a b c d : Int), (part 3 #[.int .i64 a, .int .i64 b, .int .i64 c, .int .i64 d] 0).run Tryz.prog w = .ok (.int .i64 a) w := fun a b c d => by simp [part, isAgg, run_underlying Tryz.underlying3]
  have p1 : ∀ (a b c d : Int), (part 3 #[.int .i64 a, .int .i64 b, .int .i64 c, .int .i64 d] 1).run Tryz.prog w = .ok (.int .i64 b) w := fun a b c d => by simp [part, isAgg, run_underlying Tryz.underlying3]
  have p2 : ∀ (a b c d : Int), (part 3 #[.int .i64 a, .int .i64 b, .int .i64 c, .int .i64 d] 2).run Tryz.prog w = .ok (.int .i64 c) w := fun a b c d => by simp [part, isAgg, run_underlying Tryz.underlying3]
  have p3 : ∀ (a b c d : Int), (part 3 #[.int .i64 a, .int .i64 b, .int .i64 c, .int .i64 d] 3).run Tryz.prog w = .ok (.int .i64 d) w := fun a b c d => by simp [part, isAgg, run_underlying Tryz.underlying3]
  have hs : (sizeOf 3).run Tryz.prog w = .ok 1 w := by simp [Tryz.sizeOf3]
  rw [Op.equalIn]
  simp only [Sem.run_bind, run_underlying Tryz.underlying29, Result.andThen_ok, Std.Legacy.Range.forIn_eq_forIn_range', Std.Legacy.Range.size, Nat.sub_zero, Nat.add_sub_cancel, Nat.div_one]
  simp only [hs, Result.andThen_ok]
  simp only [show List.range' 0 4 1 = [0, 1, 2, 3] from rfl, List.forIn_cons, List.forIn_nil, Sem.run_bind, Nat.mul_one, p0, p1, p2, p3, Result.andThen_ok, run_equalIn_int w _ 3 .i64 .i64 _ _ Tryz.underlying3]
  cases h1 : (a == a') <;> cases h2 : (b == b') <;> cases h3 : (c == c') <;> cases h4 : (d == d') <;> simp [h1, h2, h3, h4, p1, p2, p3, run_equalIn_int w _ 3 .i64 .i64 _ _ Tryz.underlying3]
theorem egA4 : Tryz.prog.eqGuardType Tryz.prog.depth 29 = false := by kernel_rfl
theorem handle_failed {x : Sv} (hok : VOk x) {t c : Int} (h1 : 2 ≤ t) (h2 : t ≤ 10) (h3 : 1 ≤ c) (h4 : c ≤ 6) : handleV x ⟨0, 1, 5, 1, t, c, 0, 0⟩ 0 = some ({ x with hs := failH x.hs t c }, [rstE t (modeH x.hs t)]) := by
  unfold handleV
  rw [if_pos (by rw [perm_failed' h1 h2 h3 h4]; rfl), if_pos rfl]
  unfold failedV
  rw [if_pos (by simp [cmpt, h1, h2, h3, h4])]
theorem fail_ok {x : Sv} (hok : VOk x) {t c : Int} (h1 : 2 ≤ t) (h2 : t ≤ 10) (h3 : 1 ≤ c) (h4 : c ≤ 7) : VOk { x with hs := failH x.hs t c } := ⟨hok.b, hok.w, fail_valid hok.h (by simp [cmpt, h1, h2]) h3 h4⟩
set_option maxRecDepth 100000 in
set_option maxHeartbeats 1000000 in
theorem new_any (w : World) : Calls Tryz.prog 17 #[] w fun e w' => e = .returned (.agg #[.int .i64 0, .slice none 0 0, .slice none 0 0]) ∧ Below w.heap.size w w' := by
  go_enter Tryz.func17, Tryz.ntmps17
  go_wp2
  exact bodyPost_ret (results_c rfl _ _ w.heap.size 41 _ _ _ rfl (heap_alloc_new w _) Tryz.underlying41 rfl (by kernel_rfl)) rfl ⟨rfl, (Below.refl _ _).alloc (Nat.le_refl _) _⟩
theorem new_sv (w : World) : SvV w (.agg #[.int .i64 0, .slice none 0 0, .slice none 0 0]) S0 := ⟨_, _, rfl, Raw.empty _ _ _, Raw.empty _ _ _⟩
set_option maxRecDepth 100000 in
set_option maxHeartbeats 1000000 in
theorem report_any (t c : Int) (w : World) : Calls Tryz.prog 18 #[.int .i64 t, .int .i64 c] w fun e w' => e = .returned (.agg #[.int .i64 0, .int .i64 1, .int .i64 5, .int .i64 1, .int .i64 t, .int .i64 c, .int .i64 0, .int .i64 0, .slice none 0 0]) ∧ Below w.heap.size w w' := by
  go_enter Tryz.func18, Tryz.ntmps18
  go_wp2
  exact bodyPost_ret (results_c rfl _ _ w.heap.size 31 _ _ _ rfl (heap_alloc_new w _) Tryz.underlying31 rfl (by kernel_rfl)) rfl ⟨rfl, (Below.refl _ _).alloc (Nat.le_refl _) _⟩
set_option maxRecDepth 100000 in
set_option maxHeartbeats 2000000 in
theorem failures_any (x : Sv) (v : Value) (t : Int) (w : World) (hl : x.hs.length ≤ 1000) (h : SvV w v x) :
    Calls Tryz.prog 19 #[v, .int .i64 t] w fun e w' => e = .returned (.int .i64 (cntH x.hs t)) ∧ Below w.heap.size w w' := by
  obtain ⟨wv, hv, rfl, h1, h2⟩ := h
  obtain ⟨r, wt, hs⟩ := x
  dsimp only at h1 h2 hl ⊢
  obtain ⟨a, c, rfl⟩ := Raw.slice h1
  obtain ⟨ha, hc, rfl⟩ := Raw.slice h2
  have H2 := Lib.hid h2
  clear h1 h2
  obtain ⟨W, hW⟩ : ∃ W, W = w.alloc (.cells #[.int .i64 r, .slice a wt.length c, .slice ha hs.length hc] 41) := ⟨_, rfl⟩
  have hb : Below w.heap.size w W := by rw [hW]; exact (Below.refl w.heap.size w).alloc (Nat.le_refl _) _
  have hx : W.heap[w.heap.size]? = some (.cells #[.int .i64 r, .slice a wt.length c, .slice ha hs.length hc] 41 (0, 0)) := by rw [hW]; exact heap_alloc_new w _
  have o2 := box_at hx (j := 2) rfl
  have HB := Lib.hid hb; have HW := Lib.hid hW
  have hsz := hb.size
  clear hb hx hW
  go_enter Tryz.func19, Tryz.ntmps19
  go_upto_region 1 with (fail)
  rw [← HW.out]
  clear HW
  go_wp2
  go_loopw [10] (fun i wr => ∃ k : Nat, k ≤ hs.length ∧ i = .int .i64 k ∧ Below w.heap.size w wr ∧ ∀ j, j < k → (hsAt hs j).t ≠ t) (fun i _ => hs.length - (intOf i).toNat)
  case atStart => exact ⟨0, Nat.zero_le _, rfl, HB.out, fun j hj => absurd hj (Nat.not_lt_zero _)⟩
  case round =>
    clear o2 HB hsz
    obtain ⟨k, hk, rfl, hbel, hno⟩ := hrel
    have HN := Lib.hid hno; clear hno
    have hsz := hbel.size
    by_cases hlt : k < hs.length
    · obtain ⟨b, off, rfl, hb, h0, h1, h2⟩ := (H2.out.below hbel).elem hlt
      obtain ⟨y, hy⟩ : ∃ y, y = hsAt hs k := ⟨_, rfl⟩
      rw [← hy] at h0 h1 h2
      have HY := Lib.hid hy; clear hy
      obtain ⟨yt, yn, yc⟩ := y
      dsimp only at h0 h1 h2
      have hbel1 := Lib.hid (hbel.alloc hsz (.cells #[.int .i64 yt, .int .i64 yn, .int .i64 yc] 68))
      clear hbel
      by_cases e : yt = t
      · subst e
        have HR := Lib.hid (show cntH hs yt = yn by rw [seen_first hlt (fun j hj => HN.out j hj) (by rw [← HY.out]), ← HY.out])
        go_wp2
        go_ret
        exact ⟨by rw [HR.out]; rfl, hbel1.out⟩
      · have he : (yt == t) = false := by simpa using e
        have HE := Lib.hid e; clear e
        go_wp2
        go_roundw
        case rel => exact ⟨k + 1, by omega, by go_num, hbel1.out, fun j hj => by
          by_cases hjk : j < k
          · exact HN.out j hjk
          · obtain rfl : j = k := by omega
            rw [← HY.out]; exact HE.out⟩
        case measure => simp [intOf]; omega
    · obtain rfl : k = hs.length := by omega
      have HR := Lib.hid (seen_none HN.out)
      go_wp2
      go_ret
      exact ⟨by rw [HR.out]; rfl, hbel⟩
set_option maxRecDepth 100000 in
set_option maxHeartbeats 2000000 in
theorem awake_any (w : World) (hF : FormsAt w) : Calls Tryz.prog 4 #[] w fun e w' => e = .returned (.bool true) ∧ Below w.heap.size w w' := by
  have h0 := hF.pos
  have HF := Lib.hid hF; clear hF
  have heq := fun a b c d a' b' c' d' w => eqA4 a b c d a' b' c' d' w
  have heg := egA4
  go_enter Tryz.func4, Tryz.ntmps4
  go_wp2_with fail
  refine (new_any _).mono ?_
  rintro e w1 ⟨rfl, hb1⟩
  go_wp2_with fail
  refine (report_any 6 2 _).mono ?_
  rintro e w2 ⟨rfl, hb2⟩
  have HB2 := Lib.hid (hb1.trans (hb2.mono hb1.size))
  have HF2 := Lib.hid (HF.out.below HB2.out h0)
  clear hb1 hb2
  go_wp2_with fail
  refine (handle_any S0 _ _ ⟨0, 1, 5, 1, 6, 2, 0, 0⟩ none 0 0 w2 S0_ok (Raw.empty _ _ _) (Raw.empty _ _ _) HF2.out (by unfold fits; decide)).mono ?_
  rintro e w3 ⟨hb3, hres⟩
  rw [handle_failed S0_ok (by decide) (by decide) (by decide) (by decide)] at hres
  obtain ⟨sv, ev, rfl, hse, hsv⟩ := hres
  replace hse := hse.toE; replace hsv := hsv.toV
  obtain ⟨wv, hv, rfl, hi, hh⟩ := hsv
  have hm : modeH S0.hs 6 = 0 := by decide
  rw [hm] at hse
  obtain ⟨ea, ec, rfl⟩ := Raw.slice hse
  obtain ⟨wa, wc, rfl⟩ := Raw.slice hi
  obtain ⟨ha, hc, rfl⟩ := Raw.slice hh
  have HB3 := Lib.hid (HB2.out.trans (hb3.mono HB2.out.size))
  obtain ⟨b, off, rfl, hbl, hcl⟩ := effs_at hse (i := 0) (x := rstE 6 0) rfl
  have c0 := hcl 0 _ rfl
  have c1 := hcl 1 _ rfl
  have c2 := hcl 2 _ rfl
  have c3 := hcl 3 _ rfl
  have c4 := hcl 4 _ rfl
  simp only [Nat.zero_mul, Nat.add_zero, rstE] at c0 c1 c2 c3 c4
  have HI := Lib.hid hi; have HH := Lib.hid hh
  clear hb3 hse hi hh hcl hm
  go_upto_region 2 with (fail)
  obtain ⟨x1, hx1⟩ : ∃ z, z = failH S0.hs 6 2 := ⟨_, rfl⟩
  have hcn : cntH x1 6 = 1 := by rw [hx1]; decide
  have hxl : x1.length ≤ 9 := by rw [hx1]; exact validH_len (fail_valid S0_ok.h (by decide) (by decide) (by decide))
  rw [← hx1] at HH ⊢
  clear hx1
  obtain ⟨w4, hw4⟩ : ∃ X, X = w3.alloc (.cells #[.int .i64 S0.r, .slice wa S0.wt.length wc, .slice ha x1.length hc] 41) := ⟨_, rfl⟩
  rw [← hw4]
  have hb4 : Below w3.heap.size w3 w4 := by rw [hw4]; exact (Below.refl _ _).alloc (Nat.le_refl _) _
  have hx4 : w4.heap[w3.heap.size]? = some (.cells #[.int .i64 S0.r, .slice wa S0.wt.length wc, .slice ha x1.length hc] 41 (0, 0)) := by rw [hw4]; exact heap_alloc_new w3 _
  have HB4 := Lib.hid (HB3.out.trans (hb4.mono HB3.out.size))
  have HSV : Hid (SvV w4 (.agg #[.int .i64 S0.r, .slice wa S0.wt.length wc, .slice ha x1.length hc]) ⟨0, [], x1⟩) := Lib.hid ⟨_, _, rfl, Raw.below HI.out hb4, Raw.below HH.out hb4⟩
  have d0 := (hb4.cell (p := ⟨b, off, none⟩) hbl).trans c0
  have d1 := (hb4.cell (p := ⟨b, off + 1, none⟩) hbl).trans c1
  have d2 := (hb4.cell (p := ⟨b, off + 2, none⟩) hbl).trans c2
  have d3 := (hb4.cell (p := ⟨b, off + 3, none⟩) hbl).trans c3
  have d4 := (hb4.cell (p := ⟨b, off + 4, none⟩) hbl).trans c4
  have n0 := box_at hx4 (j := 0) rfl
  have n1 := box_at hx4 (j := 1) rfl
  have n2 := box_at hx4 (j := 2) rfl
  obtain ⟨N, hN⟩ : ∃ N, N = w3.heap.size := ⟨_, rfl⟩
  rw [← hN] at n0 n1 n2 ⊢
  have HCN := Lib.hid hcn
  clear hw4 hb4 hx4 hN c0 c1 c2 c3 c4 hcn HI HH HB3 HB2 HF2 HF
  go_wp2_with fail
  refine (failures_any ⟨0, [], x1⟩ _ 6 w4 (by show x1.length ≤ 1000; omega) HSV.out).mono ?_
  rintro e w5 ⟨rfl, hb5⟩
  have HB5 := Lib.hid (HB4.out.trans (hb5.mono HB4.out.size))
  dsimp only
  rw [HCN.out]
  go_wp2
  go_ret
  exact ⟨rfl, HB5.out⟩
end Go.Proofs.YthmnhpakgjnngaaGreatDoor
