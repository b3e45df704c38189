/- Revive: permitted messages: args, Permitted -/
import Derived.Test.YthmnhpakgjnngaaGreatDoorVd
namespace Go.Rv
open Go Go.RowKit Go.Bs Go.Cl Go.Rw Go.Dt
def formL : List (Int × Int × ByteArray × Int) := [(0, 0, ⟨#[]⟩, 0), (-1, -1, ⟨#[115, 42, 42, 42]⟩, 128), (-1, 4, ⟨#[112, 98]⟩, 0), (0, -1, ⟨#[100, 110, 42, 42]⟩, 128), (0, -1, ⟨#[42, 110]⟩, 0), (0, 1, ⟨#[99, 120]⟩, 0), (1, -1, ⟨#[110]⟩, 0), (-1, 1, ⟨#[110]⟩, 0), (3, 4, ⟨#[117, 117]⟩, 0), (3, 4, ⟨#[117]⟩, 1536), (3, 4, ⟨#[117]⟩, 0), (4, 3, ⟨#[117, 101, 110]⟩, 0), (3, 5, ⟨#[117, 117]⟩, 0), (3, 5, ⟨#[117]⟩, 128), (3, 5, ⟨#[117]⟩, 0), (5, 3, ⟨#[117, 101]⟩, 1536), (3, 10, ⟨#[117]⟩, 0), (10, 3, ⟨#[117]⟩, 0), (5, 6, ⟨#[111, 42, 42, 42]⟩, 128), (6, 5, ⟨#[101, 42, 121]⟩, 1536), (-1, 7, ⟨#[98, 107, 103]⟩, 128), (7, -1, ⟨#[101, 107]⟩, 128), (5, 9, ⟨#[109, 117, 110]⟩, 128), (9, 5, ⟨#[117, 101]⟩, 128), (5, 8, ⟨#[113, 42, 42, 42]⟩, 128), (8, 5, ⟨#[117, 101, 42]⟩, 128), (-1, 2, ⟨#[122, 42]⟩, 128), (2, -1, ⟨#[101, 42]⟩, 128)]
def fmAt (k : Nat) : Int × Int × ByteArray × Int := formL.getD k (0, 0, ⟨#[]⟩, 0)
/-- the table of forms lies in its block -/
def FormsAt (w : World) : Prop := ∀ k, k < 28 → w.cell? ⟨0, k * 4, none⟩ = some (.int .i64 (fmAt k).1) ∧ w.cell? ⟨0, k * 4 + 1, none⟩ = some (.int .i64 (fmAt k).2.1) ∧ w.cell? ⟨0, k * 4 + 2, none⟩ = some (.string (fmAt k).2.2.1) ∧ w.cell? ⟨0, k * 4 + 3, none⟩ = some (.int .i64 (fmAt k).2.2.2)
theorem FormsAt.pos {w : World} (h : FormsAt w) : 0 < w.heap.size := by
  have := (h 0 (by omega)).1
  rcases Nat.eq_zero_or_pos w.heap.size with h0 | h0
  · simp [World.cell?, h0] at this
  · exact h0
theorem FormsAt.below {w w' : World} {B : Nat} (h : FormsAt w) (hb : Below B w w') (hB : 0 < B) : FormsAt w' := fun k hk => by
  have e : ∀ o, w'.cell? ⟨0, o, none⟩ = w.cell? ⟨0, o, none⟩ := fun o => World.cell?_of_block (w := w) (hb.block 0 hB)
  rw [e, e, e, e]; exact h k hk
theorem fm_size : ∀ k, k < 28 → (fmAt k).2.2.1.size ≤ 4 := by decide +kernel
def permP (m : Ms) (dl : Nat) : Bool :=
  if decide (m.kind < 1) || (decide (28 ≤ m.kind) || decide (m.seq < 0)) then false
  else (decide ((fmAt m.kind.toNat).1 < 0) || (m.src == (fmAt m.kind.toNat).1)) && (decide ((fmAt m.kind.toNat).2.1 < 0) || (m.dst == (fmAt m.kind.toNat).2.1)) && argsP (fmAt m.kind.toNat).2.2.1 m && decide ((dl : Int) ≤ (fmAt m.kind.toNat).2.2.2) && endsP m && extraP m dl
end Go.Rv
namespace Go.Proofs.YthmnhpakgjnngaaGreatDoor
open Go.RowKit Go.Bs Go.Cl Go.Rw Go.Dt Go.Rv
theorem index4 (x0 x1 x2 x3 : Int) (w : World) : (Instr.index 29 (.agg #[.int .i64 x0, .int .i64 x1, .int .i64 x2, .int .i64 x3]) (.int .i64 0)).run Tryz.prog w = .ok (.int .i64 x0) w ∧ (Instr.index 29 (.agg #[.int .i64 x0, .int .i64 x1, .int .i64 x2, .int .i64 x3]) (.int .i64 1)).run Tryz.prog w = .ok (.int .i64 x1) w ∧ (Instr.index 29 (.agg #[.int .i64 x0, .int .i64 x1, .int .i64 x2, .int .i64 x3]) (.int .i64 2)).run Tryz.prog w = .ok (.int .i64 x2) w ∧ (Instr.index 29 (.agg #[.int .i64 x0, .int .i64 x1, .int .i64 x2, .int .i64 x3]) (.int .i64 3)).run Tryz.prog w = .ok (.int .i64 x3) w :=
  ⟨by kernel_rfl, by kernel_rfl, by kernel_rfl, by kernel_rfl⟩
def xAt (m : Ms) (k : Nat) : Int := if k = 0 then m.a0 else if k = 1 then m.a1 else if k = 2 then m.a2 else m.a3
theorem index4_at (m : Ms) (k : Nat) (hk : k < 4) (w : World) : (Instr.index 29 (.agg #[.int .i64 m.a0, .int .i64 m.a1, .int .i64 m.a2, .int .i64 m.a3]) (.int .i64 (k : Int))).run Tryz.prog w = .ok (.int .i64 (xAt m k)) w := by
  have h := index4 m.a0 m.a1 m.a2 m.a3 w
  have hc : k = 0 ∨ k = 1 ∨ k = 2 ∨ k = 3 := by omega
  rcases hc with rfl | rfl | rfl | rfl
  · exact h.1
  · exact h.2.1
  · exact h.2.2.1
  · exact h.2.2.2
theorem argsP_false {s : ByteArray} {m : Ms} {k : Nat} (hk : k < 4) (h : inP (clsAt s k) (xAt m k) = false) : argsP s m = false := by
  have hc : k = 0 ∨ k = 1 ∨ k = 2 ∨ k = 3 := by omega
  rcases hc with rfl | rfl | rfl | rfl <;> simp only [xAt, if_true] at h <;> simp_all [argsP]
theorem argsP_true {s : ByteArray} {m : Ms} (h : ∀ k, k < 4 → inP (clsAt s k) (xAt m k) = true) : argsP s m = true := by
  have h0 := h 0 (by omega); have h1 := h 1 (by omega); have h2 := h 2 (by omega); have h3 := h 3 (by omega)
  simp only [xAt, if_true] at h0 h1 h2 h3
  simp_all [argsP]
set_option maxRecDepth 100000 in
set_option maxHeartbeats 4000000 in
theorem args_any (s : ByteArray) (m : Ms) (w : World) (hs : s.size ≤ 100) : Calls Tryz.prog 70 #[.string s, .agg #[.int .i64 m.a0, .int .i64 m.a1, .int .i64 m.a2, .int .i64 m.a3]] w fun e w' => e = .returned (.bool (argsP s m)) ∧ Below w.heap.size w w' := by
  have hix := index4_at m
  have HIX := Lib.hid hix
  clear hix
  have hb : Below w.heap.size w (w.alloc (.cells #[.int .i64 m.a0, .int .i64 m.a1, .int .i64 m.a2, .int .i64 m.a3] 29)) := (Below.refl w.heap.size w).alloc (Nat.le_refl _) _
  have HB := Lib.hid hb
  clear hb
  go_enter Tryz.func70, Tryz.ntmps70
  go_wp2
  go_loopw [9] (fun i wr => ∃ k : Nat, k ≤ 4 ∧ i = .int .i64 k ∧ wr = w.alloc (.cells #[.int .i64 m.a0, .int .i64 m.a1, .int .i64 m.a2, .int .i64 m.a3] 29) ∧ ∀ j, j < k → inP (clsAt s j) (xAt m j) = true) (fun i _ => 4 - (intOf i).toNat)
  case atStart => exact ⟨0, Nat.zero_le _, rfl, rfl, fun j hj => absurd hj (Nat.not_lt_zero _)⟩
  case round =>
    obtain ⟨k, hk, rfl, hw, hok⟩ := hrel
    have HOK := Lib.hid hok; clear hok
    have HW := Lib.hid hw; clear hw
    by_cases hlt : k < 4
    · have hix : ∀ wx, (Instr.index 29 (.agg #[.int .i64 m.a0, .int .i64 m.a1, .int .i64 m.a2, .int .i64 m.a3]) (.int .i64 (k : Int))).run Tryz.prog wx = .ok (.int .i64 (xAt m k)) wx := fun wx => HIX.out k hlt wx
      have hk4 : (k : Int) < 4 := by omega
      cases hc : inP (clsAt s k) (xAt m k)
      · have HC := Lib.hid hc; clear hc
        have HR := Lib.hid (argsP_false hlt HC.out)
        by_cases hks : k < s.size
        · have hks' : (k : Int) < (s.size : Int) := by omega
          have hcl : Hid (clsAt s k = (s[k].toNat : Int)) := Lib.hid (by unfold clsAt; rw [dif_pos hks])
          have hnx : ∀ W : World, (Instr.index 9 (.string s) (.int .i64 (k : Int))).run Tryz.prog W = .ok (.int .u8 (s[k].toNat : Int)) W := fun W => by
            rw [run_index_string (h := Tryz.underlying9), dif_pos (by omega)]; rfl
          go_wp2_with fail
          refine (in_eq _ _ false _ (by rw [← hcl.out]; exact HC.out)).mono ?_
          rintro e w1 ⟨rfl, rfl⟩
          go_wp2
          go_ret
          exact ⟨ret_bool HR.out.symm, by rw [HW.out]; exact HB.out⟩
        · have hks' : ¬ (k : Int) < (s.size : Int) := by omega
          have hcl : Hid (clsAt s k = 48) := Lib.hid (by unfold clsAt; rw [dif_neg hks])
          go_wp2_with fail
          refine (in_eq _ _ false _ (by rw [← hcl.out]; exact HC.out)).mono ?_
          rintro e w1 ⟨rfl, rfl⟩
          go_wp2
          go_ret
          exact ⟨ret_bool HR.out.symm, by rw [HW.out]; exact HB.out⟩
      · have HC := Lib.hid hc; clear hc
        have hnext : Hid (∀ j, j < k + 1 → inP (clsAt s j) (xAt m j) = true) := Lib.hid (fun j hj => by
          by_cases hjk : j < k
          · exact HOK.out j hjk
          · obtain rfl : j = k := by omega
            exact HC.out)
        by_cases hks : k < s.size
        · have hks' : (k : Int) < (s.size : Int) := by omega
          have hcl : Hid (clsAt s k = (s[k].toNat : Int)) := Lib.hid (by unfold clsAt; rw [dif_pos hks])
          have hnx : ∀ W : World, (Instr.index 9 (.string s) (.int .i64 (k : Int))).run Tryz.prog W = .ok (.int .u8 (s[k].toNat : Int)) W := fun W => by
            rw [run_index_string (h := Tryz.underlying9), dif_pos (by omega)]; rfl
          go_wp2_with fail
          refine (in_eq _ _ true _ (by rw [← hcl.out]; exact HC.out)).mono ?_
          rintro e w1 ⟨rfl, rfl⟩
          go_wp2
          go_roundw
          case rel => exact ⟨k + 1, by omega, by go_num, HW.out, hnext.out⟩
          case measure => simp [intOf]; omega
        · have hks' : ¬ (k : Int) < (s.size : Int) := by omega
          have hcl : Hid (clsAt s k = 48) := Lib.hid (by unfold clsAt; rw [dif_neg hks])
          go_wp2_with fail
          refine (in_eq _ _ true _ (by rw [← hcl.out]; exact HC.out)).mono ?_
          rintro e w1 ⟨rfl, rfl⟩
          go_wp2
          go_roundw
          case rel => exact ⟨k + 1, by omega, by go_num, HW.out, hnext.out⟩
          case measure => simp [intOf]; omega
    · obtain rfl : k = 4 := by omega
      have HR := Lib.hid (argsP_true (s := s) (m := m) HOK.out)
      go_wp2
      go_ret
      exact ⟨ret_bool HR.out.symm, by rw [HW.out]; exact HB.out⟩
theorem args_eq (s : ByteArray) (m : Ms) (r : Bool) (w : World) (hs : s.size ≤ 100) (h : argsP s m = r) : Calls Tryz.prog 70 #[.string s, .agg #[.int .i64 m.a0, .int .i64 m.a1, .int .i64 m.a2, .int .i64 m.a3]] w fun e w' => e = .returned (.bool r) ∧ Below w.heap.size w w' := h ▸ args_any s m w hs
theorem ends_eq (m : Ms) (a : Option Addr) (n c : Nat) (r : Bool) (w : World) (h : endsP m = r) : Calls Tryz.prog 71 #[.agg (msgC m (.slice a n c))] w fun e w' => e = .returned (.bool r) ∧ Below w.heap.size w w' := h ▸ ends_any m a n c w
theorem extra_eq (m : Ms) (a : Option Addr) (n c : Nat) (r : Bool) (w : World) (h : extraP m n = r) : Calls Tryz.prog 72 #[.agg (msgC m (.slice a n c))] w fun e w' => e = .returned (.bool r) ∧ Below w.heap.size w w' := h ▸ extra_any m a n c w
set_option maxRecDepth 100000 in
set_option maxHeartbeats 4000000 in
theorem perm_any (m : Ms) (a : Option Addr) (n c : Nat) (w : World) (hF : FormsAt w) : Calls Tryz.prog 44 #[.agg (msgC m (.slice a n c))] w fun e w' => e = .returned (.bool (permP m n)) ∧ Below w.heap.size w w' := by
  obtain ⟨ms, md, mk, mq, m0, m1, m2, m3⟩ := m
  have h0 := hF.pos
  obtain ⟨W, hW⟩ : ∃ W, W = w.alloc (.cells (msgC ⟨ms, md, mk, mq, m0, m1, m2, m3⟩ (.slice a n c)) 31) := ⟨_, rfl⟩
  have hb : Below w.heap.size w W := by rw [hW]; exact (Below.refl w.heap.size w).alloc (Nat.le_refl _) _
  have hx : W.heap[w.heap.size]? = some (.cells (msgC ⟨ms, md, mk, mq, m0, m1, m2, m3⟩ (.slice a n c)) 31 (0, 0)) := by rw [hW]; exact heap_alloc_new w _
  have c0 := box_at hx (j := 0) rfl
  have c1 := box_at hx (j := 1) rfl
  have c2 := box_at hx (j := 2) rfl
  have c3 := box_at hx (j := 3) rfl
  have HB := Lib.hid hb
  have HX := Lib.hid (show W.heap[w.heap.size]? = some (.cells #[.int .i64 ms, .int .i64 md, .int .i64 mk, .int .i64 mq, .int .i64 m0, .int .i64 m1, .int .i64 m2, .int .i64 m3, .slice a n c] 31 (0, 0)) from hx)
  have hF1 := hF.below hb h0
  have hw0 : w.heap.size ≠ 0 := by omega
  have hwl := (Array.getElem?_eq_some_iff.1 hx).1
  have HF := Lib.hid hF1
  have HW := Lib.hid hW
  clear hb hx hW hF hF1
  unfold msgC at c0 c1 c2 c3 HW
  unfold msgC
  dsimp only at c0 c1 c2 c3 HW ⊢
  go_enter Tryz.func44, Tryz.ntmps44
  go_upto_region 1 with (fail)
  rw [← HW.out]
  by_cases hbad : mk < 1 ∨ 28 ≤ mk ∨ mq < 0
  · have hr : permP ⟨ms, md, mk, mq, m0, m1, m2, m3⟩ n = false := by
      unfold permP
      rw [if_pos]
      rcases hbad with h | h | h <;> simp [h]
    have HR := Lib.hid hr; clear hr
    have HBAD := Lib.hid hbad; clear hbad
    go_wp2
    all_goals
      first
        | (go_ret; exact ⟨ret_bool HR.out.symm, HB.out⟩)
        | (exfalso; have := HBAD.out; omega)
  · obtain ⟨k, rfl⟩ : ∃ k : Nat, mk = k := ⟨mk.toNat, by omega⟩
    have hk1 : 1 ≤ k := by omega
    have hk2 : k < 28 := by omega
    have hk2' : (k : Int) < 28 := by omega
    have hk1' : 1 ≤ (k : Int) := by omega
    have hk3 : 0 ≤ mq := by omega
    clear hbad
    have hr : permP ⟨ms, md, k, mq, m0, m1, m2, m3⟩ n = ((decide ((fmAt k).1 < 0) || (ms == (fmAt k).1)) && (decide ((fmAt k).2.1 < 0) || (md == (fmAt k).2.1)) && argsP (fmAt k).2.2.1 ⟨ms, md, k, mq, m0, m1, m2, m3⟩ && decide ((n : Int) ≤ (fmAt k).2.2.2) && endsP ⟨ms, md, k, mq, m0, m1, m2, m3⟩ && extraP ⟨ms, md, k, mq, m0, m1, m2, m3⟩ n) := by
      unfold permP
      rw [if_neg (by simp; omega)]
      simp
    obtain ⟨f0, f1, f2, f3⟩ := HF.out k hk2
    have hfs := fm_size k hk2
    generalize (fmAt k).1 = ff at f0 hr
    generalize (fmAt k).2.1 = ft at f1 hr
    generalize (fmAt k).2.2.1 = fc at f2 hr hfs
    generalize (fmAt k).2.2.2 = fd at f3 hr
    have HR := Lib.hid hr; clear hr
    go_upto_region 4 with (fail)
    obtain ⟨W2, hW2⟩ : ∃ X, X = W.alloc (.cells #[.int .i64 ff, .int .i64 ft, .string fc, .int .i64 fd] 116) := ⟨_, rfl⟩
    rw [← hW2]
    obtain ⟨F, hFe⟩ : ∃ F, F = W.heap.size := ⟨_, rfl⟩
    have hb2 : Below W.heap.size W W2 := by rw [hW2]; exact (Below.refl _ _).alloc (Nat.le_refl _) _
    have hY : W2.heap[F]? = some (.cells #[.int .i64 ff, .int .i64 ft, .string fc, .int .i64 fd] 116 (0, 0)) := by rw [hW2, hFe]; exact heap_alloc_new W _
    have HY := Lib.hid hY
    have HX := Lib.hid ((hb2.block _ hwl).trans HX.out)
    have HB := Lib.hid (HB.out.trans (hb2.mono HB.out.size))
    rw [← hFe]
    clear hY hb2 hW2 c0 c1 c2 c3 f0 f1 f2 f3 hwl hFe HF
    have c0 := box_at HX.out (j := 0) rfl
    have c1 := box_at HX.out (j := 1) rfl
    have c2 := box_at HX.out (j := 2) rfl
    have c3 := box_at HX.out (j := 3) rfl
    have c4 := box_at HX.out (j := 4) rfl
    have c5 := box_at HX.out (j := 5) rfl
    have c6 := box_at HX.out (j := 6) rfl
    have c7 := box_at HX.out (j := 7) rfl
    have c8 := box_at HX.out (j := 8) rfl
    have d0 := box_at HY.out (j := 0) rfl
    have d1 := box_at HY.out (j := 1) rfl
    have d2 := box_at HY.out (j := 2) rfl
    have d3 := box_at HY.out (j := 3) rfl
    go_wp2_with (first
      | (go_at_call 70; refine (args_any fc ⟨ms, md, (k : Int), mq, m0, m1, m2, m3⟩ _ (by omega)).mono ?_; rintro e w5 ⟨rfl, hb5⟩; have HX := Lib.hid ((hb5.block _ (Array.getElem?_eq_some_iff.1 HX.out).1).trans HX.out); have HY := Lib.hid ((hb5.block _ (Array.getElem?_eq_some_iff.1 HY.out).1).trans HY.out); have HB := Lib.hid (HB.out.trans (hb5.mono HB.out.size)); have c0 := box_at HX.out (j := 0) rfl; have c1 := box_at HX.out (j := 1) rfl; have c2 := box_at HX.out (j := 2) rfl; have c3 := box_at HX.out (j := 3) rfl; have c4 := box_at HX.out (j := 4) rfl; have c5 := box_at HX.out (j := 5) rfl; have c6 := box_at HX.out (j := 6) rfl; have c7 := box_at HX.out (j := 7) rfl; have c8 := box_at HX.out (j := 8) rfl; have d0 := box_at HY.out (j := 0) rfl; have d1 := box_at HY.out (j := 1) rfl; have d2 := box_at HY.out (j := 2) rfl; have d3 := box_at HY.out (j := 3) rfl; clear hb5)
      | (go_at_call 71; refine (ends_any ⟨ms, md, (k : Int), mq, m0, m1, m2, m3⟩ a n c _).mono ?_; rintro e w5 ⟨rfl, hb5⟩; have HX := Lib.hid ((hb5.block _ (Array.getElem?_eq_some_iff.1 HX.out).1).trans HX.out); have HY := Lib.hid ((hb5.block _ (Array.getElem?_eq_some_iff.1 HY.out).1).trans HY.out); have HB := Lib.hid (HB.out.trans (hb5.mono HB.out.size)); have c0 := box_at HX.out (j := 0) rfl; have c1 := box_at HX.out (j := 1) rfl; have c2 := box_at HX.out (j := 2) rfl; have c3 := box_at HX.out (j := 3) rfl; have c4 := box_at HX.out (j := 4) rfl; have c5 := box_at HX.out (j := 5) rfl; have c6 := box_at HX.out (j := 6) rfl; have c7 := box_at HX.out (j := 7) rfl; have c8 := box_at HX.out (j := 8) rfl; have d0 := box_at HY.out (j := 0) rfl; have d1 := box_at HY.out (j := 1) rfl; have d2 := box_at HY.out (j := 2) rfl; have d3 := box_at HY.out (j := 3) rfl; clear hb5)
      | (go_at_call 72; refine (extra_any ⟨ms, md, (k : Int), mq, m0, m1, m2, m3⟩ a n c _).mono ?_; rintro e w5 ⟨rfl, hb5⟩; have HX := Lib.hid ((hb5.block _ (Array.getElem?_eq_some_iff.1 HX.out).1).trans HX.out); have HY := Lib.hid ((hb5.block _ (Array.getElem?_eq_some_iff.1 HY.out).1).trans HY.out); have HB := Lib.hid (HB.out.trans (hb5.mono HB.out.size)); have c0 := box_at HX.out (j := 0) rfl; have c1 := box_at HX.out (j := 1) rfl; have c2 := box_at HX.out (j := 2) rfl; have c3 := box_at HX.out (j := 3) rfl; have c4 := box_at HX.out (j := 4) rfl; have c5 := box_at HX.out (j := 5) rfl; have c6 := box_at HX.out (j := 6) rfl; have c7 := box_at HX.out (j := 7) rfl; have c8 := box_at HX.out (j := 8) rfl; have d0 := box_at HY.out (j := 0) rfl; have d1 := box_at HY.out (j := 1) rfl; have d2 := box_at HY.out (j := 2) rfl; have d3 := box_at HY.out (j := 3) rfl; clear hb5))
    all_goals
      go_ret
      refine ⟨ret_bool ?_, HB.out⟩
      rw [HR.out]
      simp [*]
      try (intros; exfalso; omega)
end Go.Proofs.YthmnhpakgjnngaaGreatDoor
