/- names: Valid; the reference's Valid -/
import Derived.Test.YtfgbkfifiioeiaaNb
namespace Go.Nm
theorem bad_ok {x n s : Bool} {t : Int} {k m : Nat} (h : x = (n && decide (1 ≤ t) && decide (t ≤ 10) && (decide (k = 0) || s) && decide (m ≤ 4))) (hb : n = false ∨ ¬ 1 ≤ t ∨ ¬ t ≤ 10 ∨ (k ≠ 0 ∧ s = false) ∨ ¬ m ≤ 4) : x = false := by
  subst h
  rcases hb with h | h | h | ⟨h1, h2⟩ | h
  · simp [h]
  · simp [h]
  · simp [h]
  · simp [h1, h2]
  · simp [h]
theorem slt_not {a b : List UInt8} (h : slt a b = true) : (Op.bytesLess b a || b == a) = false := by
  have h1 := slt_asymm h
  have h2 : ¬ b = a := fun e => slt_ne h e.symm
  show (slt b a || b == a) = false
  rw [h1]; simp [h2]
theorem not_slt {a b : List UInt8} (h : slt a b = false) : (Op.bytesLess b a || b == a) = true := by
  by_cases e : a = b
  · subst e; simp
  · rcases slt_total e with h' | h'
    · rw [h] at h'; cases h'
    · show (slt b a || b == a) = true
      rw [h']; rfl
end Go.Nm
namespace Go.Proofs.Ytfgbkfifiioeiaa
open Go.RowKit Go.Bs Go.Cl Go.Rw Go.Nm
set_option maxRecDepth 100000 in
set_option maxHeartbeats 4000000 in
theorem valid_any (v : Value) (l : List Nm) (w : World) (hl : l.length ≤ 1000000) (h : SlN w v l) :
    Calls Try.prog 16 #[v] w fun e w' => e = .returned (.bool (validN l)) ∧ Below w.heap.size w w' := by
  obtain ⟨a, cap, rfl⟩ := Raw.slice h
  have H := Lib.hid h; clear h
  go_enter Try.func16, Try.ntmps16
  go_wp2
  go_loopw [7] (fun i wr => ∃ k : Nat, k ≤ l.length ∧ i = .int .i64 k ∧ Below w.heap.size w wr ∧ ∀ j, j < k → okN l j = true) (fun i _ => l.length - (intOf i).toNat)
  case atStart => exact ⟨0, Nat.zero_le _, rfl, Below.refl _ _, fun j hj => absurd hj (Nat.not_lt_zero _)⟩
  case round =>
    obtain ⟨k, hk, rfl, hbel, hprev⟩ := hrel
    have Hprev := Lib.hid hprev; clear hprev
    have hsz0 := hbel.size
    by_cases hlt : k < l.length
    · have Hd := H.out.below hbel
      obtain ⟨b, off, rfl, hb, h0, h1⟩ := Hd.elem hlt
      obtain ⟨b', off', e', _, f0, _⟩ := Hd.elem (show k - 1 < l.length by omega)
      cases e'
      have hok : okN l k = (nmOK (nmAt l k).s && decide (1 ≤ (nmAt l k).t) && decide ((nmAt l k).t ≤ 10) && (decide (k = 0) || slt (nmAt l (k - 1)).s (nmAt l k).s) && decide (cnt l (nmAt l k).t ≤ 4)) := rfl
      obtain ⟨z, hz⟩ : ∃ z, nmAt l k = z := ⟨_, rfl⟩
      obtain ⟨y, hy⟩ : ∃ y, nmAt l (k - 1) = y := ⟨_, rfl⟩
      rw [hz] at h0 h1 hok
      rw [hy] at f0 hok
      have Hok := Lib.hid hok; have Hz := Lib.hid hz
      clear hok hz hy Hd
      obtain ⟨ob, hob⟩ : ∃ o, o = Obj.cells #[.string (strOf z.s), .int .i64 z.t] 59 := ⟨_, rfl⟩
      have hal0 : Below wr.heap.size wr (wr.alloc ob) := (Below.refl _ wr).alloc (Nat.le_refl _) _
      have HAL := Lib.hid hal0
      have HBX : Hid ((wr.alloc ob).heap[wr.heap.size]? = some (.cells #[.string (strOf z.s), .int .i64 z.t] 59 (0, 0))) := Lib.hid (by rw [hob]; exact heap_alloc_new wr _)
      have hza : Hid (wr.heap.size < (wr.alloc ob).heap.size) := Lib.hid (Array.getElem?_eq_some_iff.1 HBX.out).1
      have HOB := Lib.hid hob
      have hbs : b < wr.heap.size + 1 := by omega
      clear hal0 hob
      go_wp2
      refine Txt.wp_txt (by kernel_rfl) (by kernel_rfl) ?_
      go_wp2_with fail
      rw [← HOB.out]
      refine (name_any z.s _).mono ?_
      rintro e w1 ⟨rfl, hb1⟩
      have hb2 : Below (wr.alloc ob).heap.size (wr.alloc ob) w1 := ((Below.refl _ (wr.alloc ob)).drew).trans hb1
      have hbel1 : Below w.heap.size w w1 := hbel.trans ((HAL.out.trans (hb2.mono (Nat.le_of_lt hza.out))).mono hsz0)
      have hc0 : w1.heap[wr.heap.size]? = some (.cells #[.string (strOf z.s), .int .i64 z.t] 59 (0, 0)) := (hb2.block wr.heap.size hza.out).trans HBX.out
      have x0 : w1.cell? ⟨wr.heap.size, 0, none⟩ = some (.string (strOf z.s)) := box_at hc0 rfl
      have x1 : w1.cell? ⟨wr.heap.size, 1, none⟩ = some (.int .i64 z.t) := box_at hc0 rfl
      have e0 : w1.cell? ⟨b, off + (k - 1) * 2, none⟩ = some (.string (strOf y.s)) := ((hb2.cell (p := ⟨b, off + (k - 1) * 2, none⟩) (Nat.lt_trans hb hza.out)).trans (HAL.out.cell (p := ⟨b, off + (k - 1) * 2, none⟩) hb)).trans f0
      clear h0 h1 f0 hb1 HBX HAL hc0 hza HOB
      have HB2 := Lib.hid hb2
      clear hb2
      cases hn : nmOK z.s
      · go_wp2
        refine Txt.DrawPost.mk0 (by rfl) ?_
        go_wp2
        go_ret
        exact ⟨ret_bool (validN_false hlt (bad_ok Hok.out (.inl hn))).symm, hbel1⟩
      by_cases ht1 : 1 ≤ z.t
      rotate_left
      · have g1 : z.t < 1 := by omega
        go_wp2
        refine Txt.DrawPost.mk0 (by rfl) ?_
        go_wp2
        go_ret
        exact ⟨ret_bool (validN_false hlt (bad_ok Hok.out (.inr (.inl (by omega))))).symm, hbel1⟩
      have g1 : ¬ z.t < 1 := by omega
      by_cases ht2 : z.t ≤ 10
      rotate_left
      · have g2 : 10 < z.t := by omega
        go_wp2
        refine Txt.DrawPost.mk0 (by rfl) ?_
        go_wp2
        go_ret
        exact ⟨ret_bool (validN_false hlt (bad_ok Hok.out (.inr (.inr (.inl (by omega)))))).symm, hbel1⟩
      have g2 : ¬ 10 < z.t := by omega
      have hk1 : ((k : Int) - 1) = ((k - 1 : Nat) : Int) ∨ k = 0 := by omega
      have hcase : k = 0 ∨ (k ≠ 0 ∧ slt y.s z.s = true) ∨ (k ≠ 0 ∧ slt y.s z.s = false) := by
        by_cases h0 : k = 0
        · exact .inl h0
        · cases hs : slt y.s z.s
          · exact .inr (.inr ⟨h0, rfl⟩)
          · exact .inr (.inl ⟨h0, rfl⟩)
      rcases hcase with hk0 | ⟨hk0, hs⟩ | ⟨hk0, hs⟩
      rotate_left 2
      · have g3 : Op.bytesLess (strOf y.s).toList (strOf z.s).toList = false := by rw [strOf_list, strOf_list]; exact hs
        
        have g5 : (0 : Int) < (k : Int) := by omega
        go_wp2
        refine Txt.DrawPost.mk0 (by rfl) ?_
        go_wp2
        go_ret
        exact ⟨ret_bool (validN_false hlt (bad_ok Hok.out (.inr (.inr (.inr (.inl ⟨hk0, hs⟩)))))).symm, hbel1⟩
      all_goals
        have gk : (k = 0 ∧ ¬ (0 : Int) < (k : Int)) ∨ ((0 : Int) < (k : Int)) := by omega
        have hsl : k = 0 ∨ slt y.s z.s = true := by first | exact .inl hk0 | exact .inr hs
        try (have g3 : Op.bytesLess (strOf y.s).toList (strOf z.s).toList = true := by rw [strOf_list, strOf_list]; exact hs)
        
        have Hsl := Lib.hid hsl
        first
          | (have g5 : (0 : Int) < (k : Int) := by omega)
          | (have g5 : ¬ (0 : Int) < (k : Int) := by omega)
        clear gk hsl
        have HK := Lib.hid hk0
        clear hk0
        go_wp2_with fail
        refine (count_any _ l z.t _ hl (H.out.below hbel1)).mono ?_
        rintro e w2 ⟨rfl, hb3⟩
        have hbel2 := hbel1.trans (hb3.mono hbel1.size)
        clear hb3
        by_cases hc4 : cnt l z.t ≤ 4
        · have g6 : ¬ (4 : Int) < (cnt l z.t : Int) := by omega
          have Hc4 := Lib.hid hc4
          clear hc4
          go_wp2
          refine Txt.DrawPost.mk0 (by rfl) ?_
          go_wp2
          go_roundw
          case rel =>
            refine ⟨k + 1, by omega, by go_num, hbel2, fun j hj => ?_⟩
            by_cases hjk : j < k
            · exact Hprev.out j hjk
            · obtain rfl : j = k := by omega
              rw [Hok.out]
              have h4 := Hc4.out
              rcases Hsl.out with h | h <;> simp [*]
          case measure => simp [intOf]; omega
        · have g6 : (4 : Int) < (cnt l z.t : Int) := by omega
          have Hc4 := Lib.hid hc4
          clear hc4
          go_wp2
          refine Txt.DrawPost.mk0 (by rfl) ?_
          go_wp2
          go_ret
          exact ⟨ret_bool (validN_false hlt (bad_ok Hok.out (.inr (.inr (.inr (.inr Hc4.out)))))).symm, hbel2⟩
    · obtain rfl : k = l.length := by omega
      have HE := Lib.hid (validN_true fun j hj => Hprev.out j hj)
      go_wp2
      go_ret
      exact ⟨ret_bool (by rw [HE.out, Bool.eq_iff_iff, decide_eq_true_eq, decide_eq_true_eq]; omega), hbel⟩
set_option maxRecDepth 100000 in
set_option maxHeartbeats 4000000 in
theorem rvalid_any (v : Value) (l : List Nm) (w : World) (hl : l.length ≤ 1000000) (hsz : ∀ x ∈ l, x.s.length ≤ 1000000) (h : SlN w v l) :
    Calls Try.prog 17 #[v] w fun e w' => e = .returned (.bool (validN l)) ∧ Below w.heap.size w w' := by
  obtain ⟨a, cap, rfl⟩ := Raw.slice h
  have H := Lib.hid h; clear h
  go_enter Try.func17, Try.ntmps17
  go_wp2
  go_loopw [3] (fun i wr => ∃ k : Nat, k ≤ l.length ∧ i = .int .i64 k ∧ Below w.heap.size w wr ∧ ∀ j, j < k → okN l j = true) (fun i _ => l.length - (intOf i).toNat)
  case atStart => exact ⟨0, Nat.zero_le _, rfl, Below.refl _ _, fun j hj => absurd hj (Nat.not_lt_zero _)⟩
  case round =>
    obtain ⟨k, hk, rfl, hbel, hprev⟩ := hrel
    have Hprev := Lib.hid hprev; clear hprev
    have hsz0 := hbel.size
    by_cases hlt : k < l.length
    · have Hd := H.out.below hbel
      obtain ⟨b, off, rfl, hb, h0, h1⟩ := Hd.elem hlt
      obtain ⟨b', off', e', _, f0, _⟩ := Hd.elem (show k - 1 < l.length by omega)
      cases e'
      have hok : okN l k = (nmOK (nmAt l k).s && decide (1 ≤ (nmAt l k).t) && decide ((nmAt l k).t ≤ 10) && (decide (k = 0) || slt (nmAt l (k - 1)).s (nmAt l k).s) && decide (cnt l (nmAt l k).t ≤ 4)) := rfl
      obtain ⟨z, hz⟩ : ∃ z, nmAt l k = z := ⟨_, rfl⟩
      obtain ⟨y, hy⟩ : ∃ y, nmAt l (k - 1) = y := ⟨_, rfl⟩
      rw [hz] at h0 h1 hok
      rw [hy] at f0 hok
      have Hok := Lib.hid hok; have Hz := Lib.hid hz
      clear hok hz hy Hd
      have hbel1 := hbel.drew
      go_wp2
      refine Txt.wp_txt (by kernel_rfl) (by kernel_rfl) ?_
      go_wp2_with fail
      refine (rname_any z.s _ (hsz z (by rw [← Hz.out]; exact nm_mem.2 ⟨k, hlt, rfl⟩))).mono ?_
      rintro e w1 ⟨rfl, rfl⟩
      cases hn : nmOK z.s
      · go_wp2
        refine Txt.DrawPost.mk0 (by rfl) ?_
        go_wp2
        go_ret
        exact ⟨ret_bool (validN_false hlt (bad_ok Hok.out (.inl hn))).symm, hbel1⟩
      by_cases ht1 : 1 ≤ z.t
      rotate_left
      · have g1 : z.t < 1 := by omega
        go_wp2
        refine Txt.DrawPost.mk0 (by rfl) ?_
        go_wp2
        go_ret
        exact ⟨ret_bool (validN_false hlt (bad_ok Hok.out (.inr (.inl (by omega))))).symm, hbel1⟩
      have g1 : ¬ z.t < 1 := by omega
      by_cases ht2 : z.t ≤ 10
      rotate_left
      · have g2 : 10 < z.t := by omega
        go_wp2
        refine Txt.DrawPost.mk0 (by rfl) ?_
        go_wp2
        go_ret
        exact ⟨ret_bool (validN_false hlt (bad_ok Hok.out (.inr (.inr (.inl (by omega)))))).symm, hbel1⟩
      have g2 : ¬ 10 < z.t := by omega
      have hk1 : ((k : Int) - 1) = ((k - 1 : Nat) : Int) ∨ k = 0 := by omega
      have hcase : k = 0 ∨ (k ≠ 0 ∧ slt y.s z.s = true) ∨ (k ≠ 0 ∧ slt y.s z.s = false) := by
        by_cases h0 : k = 0
        · exact .inl h0
        · cases hs : slt y.s z.s
          · exact .inr (.inr ⟨h0, rfl⟩)
          · exact .inr (.inl ⟨h0, rfl⟩)
      rcases hcase with hk0 | ⟨hk0, hs⟩ | ⟨hk0, hs⟩
      rotate_left 2
      · have g3 : Op.bytesLess (strOf y.s).toList (strOf z.s).toList = false := by rw [strOf_list, strOf_list]; exact hs
        have g4 : (Op.bytesLess (strOf z.s).toList (strOf y.s).toList || (strOf z.s).toList == (strOf y.s).toList) = true := by rw [strOf_list, strOf_list]; exact not_slt hs
        have g5 : (0 : Int) < (k : Int) := by omega
        go_wp2
        refine Txt.DrawPost.mk0 (by rfl) ?_
        go_wp2
        go_ret
        exact ⟨ret_bool (validN_false hlt (bad_ok Hok.out (.inr (.inr (.inr (.inl ⟨hk0, hs⟩)))))).symm, hbel1⟩
      all_goals
        have gk : (k = 0 ∧ ¬ (0 : Int) < (k : Int)) ∨ ((0 : Int) < (k : Int)) := by omega
        have hsl : k = 0 ∨ slt y.s z.s = true := by first | exact .inl hk0 | exact .inr hs
        try (have g3 : Op.bytesLess (strOf y.s).toList (strOf z.s).toList = true := by rw [strOf_list, strOf_list]; exact hs)
        try (have g4 : (Op.bytesLess (strOf z.s).toList (strOf y.s).toList || (strOf z.s).toList == (strOf y.s).toList) = false := by rw [strOf_list, strOf_list]; exact slt_not hs)
        have Hsl := Lib.hid hsl
        first
          | (have g5 : (0 : Int) < (k : Int) := by omega)
          | (have g5 : ¬ (0 : Int) < (k : Int) := by omega)
        clear gk hsl
        have HK := Lib.hid hk0
        clear hk0
        go_wp2_with fail
        refine (rcount_any _ l z.t _ hl (H.out.below hbel1)).mono ?_
        rintro e w2 ⟨rfl, hb3⟩
        have hbel2 := hbel1.trans (hb3.mono hbel1.size)
        clear hb3
        by_cases hc4 : cnt l z.t ≤ 4
        · have g6 : ¬ (4 : Int) < (cnt l z.t : Int) := by omega
          have Hc4 := Lib.hid hc4
          clear hc4
          go_wp2
          refine Txt.DrawPost.mk0 (by rfl) ?_
          go_wp2
          go_roundw
          case rel =>
            refine ⟨k + 1, by omega, by go_num, hbel2, fun j hj => ?_⟩
            by_cases hjk : j < k
            · exact Hprev.out j hjk
            · obtain rfl : j = k := by omega
              rw [Hok.out]
              have h4 := Hc4.out
              rcases Hsl.out with h | h <;> simp [*]
          case measure => simp [intOf]; omega
        · have g6 : (4 : Int) < (cnt l z.t : Int) := by omega
          have Hc4 := Lib.hid hc4
          clear hc4
          go_wp2
          refine Txt.DrawPost.mk0 (by rfl) ?_
          go_wp2
          go_ret
          exact ⟨ret_bool (validN_false hlt (bad_ok Hok.out (.inr (.inr (.inr (.inr Hc4.out)))))).symm, hbel2⟩
    · obtain rfl : k = l.length := by omega
      have HE := Lib.hid (validN_true fun j hj => Hprev.out j hj)
      go_wp2
      go_ret
      exact ⟨ret_bool (by rw [HE.out, Bool.eq_iff_iff, decide_eq_true_eq, decide_eq_true_eq]; omega), hbel⟩
end Go.Proofs.Ytfgbkfifiioeiaa
