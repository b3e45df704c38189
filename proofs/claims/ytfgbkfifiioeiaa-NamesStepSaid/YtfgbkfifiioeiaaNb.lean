/- names: walks: names, strings.Compare, count, Valid; the reference's Name, owned, Valid -/
import Derived.Test.YtfgbkfifiioeiaaNa
namespace Go.Proofs.Ytfgbkfifiioeiaa
open Go.RowKit Go.Bs Go.Cl Go.Rw Go.Nm
set_option maxHeartbeats 1000000 in
theorem bad_any (r : Nat) (w : World) : Calls Try.prog 52 #[.int .i32 (r : Int)] w fun e w' => e = .returned (.bool (badR r)) ∧ w = w' := by
  go_enter Try.func52, Try.ntmps52
  go_wp2
  all_goals
    go_ret
    refine ⟨ret_bool ?_, rfl⟩
    rw [Bool.eq_iff_iff]
    unfold badR
    simp only [Bool.and_eq_true, Bool.or_eq_true, decide_eq_true_eq, bne_iff_ne, ne_eq]
    simp [*] <;> omega
set_option maxHeartbeats 2000000 in
set_option maxRecDepth 100000 in
theorem indexFunc_any (s : ByteArray) (w : World) :
    Calls Try.prog 71 #[.string s, .func (.func 52) #[] #[], .bool true] w fun e w' => e = .returned (.int .i64 (Lib.idxFunc badR true s)) ∧ Below w.heap.size w w' := by
  go_enter Try.func71, Try.ntmps71
  go_wp2
  go_loopg [] s.size (fun gf wx => ∃ pos : Nat, wx.heap[w.heap.size]? = some (.stringIter s pos) ∧ Below w.heap.size w wx ∧ Lib.idxFuncFrom badR true s gf pos = Lib.idxFunc badR true s ∧ s.size ≤ pos + gf)
  case atStart => exact ⟨0, World.iter_heap w s 0, (Below.refl _ w).alloc (Nat.le_refl _) _, rfl, by omega⟩
  case round =>
    obtain ⟨pos, hit, hbw, hleft, hfu⟩ := hrel
    by_cases hps : pos < s.size
    · obtain ⟨g', rfl⟩ : ∃ g', gk = g' + 1 := ⟨gk - 1, by omega⟩
      have hnx : ∀ ty, (Instr.next (.pointer (some ⟨w.heap.size, 0, none⟩)) true ty).run Try.prog wr = _ := fun ty => Lib.run_next_any_at wr w.heap.size s pos ty hit hps
      have hwd := Lib.width_pos s pos
      obtain ⟨R, hR⟩ : ∃ R, (Utf8.decode s pos).1 = R := ⟨_, rfl⟩
      obtain ⟨K, hK⟩ : ∃ K, (Utf8.decode s pos).2 = K := ⟨_, rfl⟩
      simp only [Lib.idxFuncFrom, hps, if_true, hR, hK] at hleft
      rw [hR, hK] at hnx
      rw [hK] at hwd
      have hit2 := Lib.iterAt_heap wr w.heap.size s pos (pos + K) hit
      have hbw2 := Lib.below_iterAt hbw (k := w.heap.size) (Nat.le_refl _) s (pos + K)
      obtain ⟨W, hWd⟩ : ∃ W, wr.iterAt w.heap.size s (pos + K) = W := ⟨_, rfl⟩
      rw [hWd] at hnx hit2 hbw2
      have cS := bad_any R W
      cases hsp : badR R <;> rw [hsp] at cS <;> simp only [hsp, if_true, Bool.false_eq_true, Bool.true_eq_false, if_false] at hleft
      · go_wp2_with (go_at_call 52; refine cS.mono ?_; rintro e W' ⟨rfl, rfl⟩)
        go_roundg g'
        case measure => omega
        case rel => exact ⟨pos + K, hit2, hbw2, hleft, by omega⟩
      · go_wp2_with (go_at_call 52; refine cS.mono ?_; rintro e W' ⟨rfl, rfl⟩)
        go_ret
        exact ⟨by rw [← hleft] <;> rfl, hbw2⟩
    · have hnx : ∀ ty, (Instr.next (.pointer (some ⟨w.heap.size, 0, none⟩)) true ty).run Try.prog wr = _ := fun ty => Lib.run_next_end_at wr w.heap.size s pos ty hit hps
      rw [Lib.idxFuncFrom_end badR true s gk pos hps] at hleft
      go_wp2
      go_ret
      exact ⟨by rw [← hleft] <;> rfl, hbw⟩
set_option maxHeartbeats 1000000 in
theorem containsFunc_any (l : List UInt8) (w : World) :
    Calls Try.prog 53 #[.string (strOf l), .func (.func 52) #[] #[]] w fun e w' => e = .returned (.bool (!l.all okC)) ∧ Below w.heap.size w w' := by
  obtain ⟨I, hI⟩ : ∃ I, Lib.idxFunc badR true (strOf l) = I := ⟨_, rfl⟩
  have h2 : Calls Try.prog 61 #[.string (strOf l), .func (.func 52) #[] #[]] w fun e w' => e = .returned (.int .i64 I) ∧ Below w.heap.size w w' := by
    go_enter Try.func61, Try.ntmps61
    go_wp2_with fail
    refine (indexFunc_any _ _).mono ?_
    rw [hI]
    rintro e w1 ⟨rfl, hb⟩
    go_wp2
    go_ret
    exact ⟨rfl, hb⟩
  have hI2 := idx_all l
  rw [hI] at hI2
  have HI := Lib.hid hI2
  clear hI hI2
  go_enter Try.func53, Try.ntmps53
  go_wp2_with fail
  refine h2.mono ?_
  rintro e w1 ⟨rfl, hb⟩
  go_wp2
  go_ret
  exact ⟨ret_bool HI.out, hb⟩
set_option maxHeartbeats 1000000 in
theorem name_any (s : List UInt8) (w : World) :
    Calls Try.prog 36 #[.string (strOf s)] w fun e w' => e = .returned (.bool (nmOK s)) ∧ Below w.heap.size w w' := by
  have hz : (strOf s).size = s.length := strOf_size s
  have HZ := Lib.hid hz
  by_cases h : 1 ≤ s.length ∧ s.length ≤ 14
  · have h1 : (1 : Int) ≤ (strOf s).size := by omega
    have h2 : ((strOf s).size : Int) ≤ 14 := by omega
    have HE : Hid (nmOK s = s.all okC) := Lib.hid (by unfold nmOK; simp [h.1, h.2])
    clear hz h
    go_enter Try.func36, Try.ntmps36
    go_wp2_with fail
    refine (containsFunc_any s _).mono ?_
    rintro e w1 ⟨rfl, hb⟩
    go_wp2
    go_ret
    exact ⟨ret_bool (by rw [HE.out] <;> simp), hb⟩
  · have HE : Hid (nmOK s = false) := Lib.hid (by unfold nmOK; rw [Bool.and_eq_false_iff]; left; simp; omega)
    by_cases h1 : 1 ≤ s.length
    · have g1 : (1 : Int) ≤ (strOf s).size := by omega
      have g2 : ¬ ((strOf s).size : Int) ≤ 14 := by omega
      clear hz h h1
      go_enter Try.func36, Try.ntmps36
      go_wp2
      go_ret
      exact ⟨ret_bool HE.out.symm, Below.refl _ _⟩
    · have g1 : ¬ (1 : Int) ≤ (strOf s).size := by omega
      clear hz h h1
      go_enter Try.func36, Try.ntmps36
      go_wp2
      go_ret
      exact ⟨ret_bool HE.out.symm, Below.refl _ _⟩
set_option maxHeartbeats 1000000 in
theorem compare_any (a b : List UInt8) (w : World) : Calls Try.prog 64 #[.string (strOf a), .string (strOf b)] w fun e w' => e = .returned (.int .i64 (cmpS a b)) ∧ w = w' := by
  have h2 : Calls Try.prog 72 #[.string (strOf a), .string (strOf b)] w fun e w' => e = .returned (.int .i64 (cmpS a b)) ∧ w = w' := by
    have hc := cmp_eq a b
    obtain ⟨C, hC⟩ : ∃ C, cmpS a b = C := ⟨_, rfl⟩
    rw [hC] at hc ⊢
    go_enter Try.func72, Try.ntmps72
    go_wp2
    rw [run_callFunc_extern Try.func75 (by kernel_rfl) (by kernel_rfl) (by kernel_rfl) (e := Extern.BytealgCompare.compare) (by kernel_rfl), Lib.run_compareString]
    simp only [Result.andThen]
    rw [Oper.upon_value]
    rw [strOf_data, strOf_data, hc]
    go_wp2
    go_ret
    exact ⟨rfl, rfl⟩
  go_enter Try.func64, Try.ntmps64
  go_wp2_with fail
  refine h2.mono ?_
  rintro e w1 ⟨rfl, rfl⟩
  go_wp2
  go_ret
  exact ⟨rfl, rfl⟩
set_option maxRecDepth 100000 in
set_option maxHeartbeats 1000000 in
theorem count_any (v : Value) (l : List Nm) (t : Int) (w : World) (hl : l.length ≤ 1000000) (h : SlN w v l) :
    Calls Try.prog 37 #[v, .int .i64 t] w fun e w' => e = .returned (.int .i64 (cnt l t)) ∧ Below w.heap.size w w' := by
  obtain ⟨a, cap, rfl⟩ := Raw.slice h
  have H := Lib.hid h; clear h
  go_enter Try.func37, Try.ntmps37
  go_wp2
  go_loopw [5, 10] (fun nn i wr => ∃ k : Nat, k ≤ l.length ∧ i = .int .i64 k ∧ nn = .int .i64 (cnt (l.take k) t) ∧ Below w.heap.size w wr) (fun _ i _ => l.length - (intOf i).toNat)
  case atStart => exact ⟨0, Nat.zero_le _, rfl, rfl, Below.refl _ _⟩
  case round =>
    obtain ⟨k, hk, rfl, rfl, hbel⟩ := hrel
    have hsz := hbel.size
    by_cases hlt : k < l.length
    · obtain ⟨b, off, rfl, hb, h0, h1⟩ := (H.out.below hbel).elem hlt
      have Hct := Lib.hid (cnt_take (t := t) hlt)
      have hc1 := cnt_le (l.take k) t
      have hc2 : (l.take k).length ≤ l.length := by simp; omega
      obtain ⟨c, hc⟩ : ∃ c, cnt (l.take k) t = c := ⟨_, rfl⟩
      rw [hc] at Hct hc1 ⊢
      have hc3 : c ≤ 1000000 := by omega
      obtain ⟨z, hz⟩ : ∃ z, nmAt l k = z := ⟨_, rfl⟩
      rw [hz] at h0 h1 Hct
      clear hc hc1 hc2 hz
      have hbel1 := hbel.alloc hsz (.cells #[.string (strOf z.s), .int .i64 z.t] 59)
      have hbs : b < wr.heap.size + 1 := by omega
      by_cases he : z.t = t
      · have eq : (z.t == t) = true := by simp [he]
        have hc4 : cnt (l.take (k + 1)) t = c + 1 := by rw [Hct.out, if_pos he]
        have Hc4 := Lib.hid hc4
        clear he Hct hc4
        go_wp2
        go_roundw
        case rel => exact ⟨k + 1, by omega, by go_num, by rw [Hc4.out]; go_num, hbel1⟩
        case measure => simp [intOf]; omega
      · have eq : (z.t == t) = false := by simp [he]
        have hc4 : cnt (l.take (k + 1)) t = c := by rw [Hct.out, if_neg he]; omega
        have Hc4 := Lib.hid hc4
        clear he Hct hc4
        go_wp2
        go_roundw
        case rel => exact ⟨k + 1, by omega, by go_num, by rw [Hc4.out], hbel1⟩
        case measure => simp [intOf]; omega
    · obtain rfl : k = l.length := by omega
      rw [List.take_length]
      go_wp2
      go_ret
      exact ⟨rfl, hbel⟩
set_option maxRecDepth 100000 in
set_option maxHeartbeats 1000000 in
theorem rcount_any (v : Value) (l : List Nm) (t : Int) (w : World) (hl : l.length ≤ 1000000) (h : SlN w v l) :
    Calls Try.prog 39 #[v, .int .i64 t] w fun e w' => e = .returned (.int .i64 (cnt l t)) ∧ Below w.heap.size w w' := by
  obtain ⟨a, cap, rfl⟩ := Raw.slice h
  have H := Lib.hid h; clear h
  go_enter Try.func39, Try.ntmps39
  go_wp2
  go_loopw [5, 6] (fun nn i wr => ∃ k : Nat, k ≤ l.length ∧ i = .int .i64 k ∧ nn = .int .i64 (cnt (l.take k) t) ∧ Below w.heap.size w wr) (fun _ i _ => l.length - (intOf i).toNat)
  case atStart => exact ⟨0, Nat.zero_le _, rfl, rfl, Below.refl _ _⟩
  case round =>
    obtain ⟨k, hk, rfl, rfl, hbel⟩ := hrel
    have hsz := hbel.size
    by_cases hlt : k < l.length
    · obtain ⟨b, off, rfl, hb, h0, h1⟩ := (H.out.below hbel).elem hlt
      have Hct := Lib.hid (cnt_take (t := t) hlt)
      have hc1 := cnt_le (l.take k) t
      have hc2 : (l.take k).length ≤ l.length := by simp; omega
      obtain ⟨c, hc⟩ : ∃ c, cnt (l.take k) t = c := ⟨_, rfl⟩
      rw [hc] at Hct hc1 ⊢
      have hc3 : c ≤ 1000000 := by omega
      obtain ⟨z, hz⟩ : ∃ z, nmAt l k = z := ⟨_, rfl⟩
      rw [hz] at h0 h1 Hct
      clear hc hc1 hc2 hz
      by_cases he : z.t = t
      · have eq : (z.t == t) = true := by simp [he]
        have hc4 : cnt (l.take (k + 1)) t = c + 1 := by rw [Hct.out, if_pos he]
        have Hc4 := Lib.hid hc4
        clear he Hct hc4
        go_wp2
        go_roundw
        case rel => exact ⟨k + 1, by omega, by go_num, by rw [Hc4.out]; go_num, hbel⟩
        case measure => simp [intOf]; omega
      · have eq : (z.t == t) = false := by simp [he]
        have hc4 : cnt (l.take (k + 1)) t = c := by rw [Hct.out, if_neg he]; omega
        have Hc4 := Lib.hid hc4
        clear he Hct hc4
        go_wp2
        go_roundw
        case rel => exact ⟨k + 1, by omega, by go_num, by rw [Hc4.out], hbel⟩
        case measure => simp [intOf]; omega
    · obtain rfl : k = l.length := by omega
      rw [List.take_length]
      go_wp2
      go_ret
      exact ⟨rfl, hbel⟩
set_option maxRecDepth 100000 in
set_option maxHeartbeats 1000000 in
theorem rname_any (s : List UInt8) (w : World) (hs : s.length ≤ 1000000) : Calls Try.prog 38 #[.string (strOf s)] w fun e w' => e = .returned (.bool (nmOK s)) ∧ w = w' := by
  have hz : (strOf s).size = s.length := strOf_size s
  have hzi : ((strOf s).size : Int) = s.length := by omega
  have HZ := Lib.hid hz
  clear hz
  go_enter Try.func38, Try.ntmps38
  go_wp2
  go_loopw [3] (fun i wr => ∃ k : Nat, k ≤ s.length ∧ i = .int .i64 k ∧ (s.take k).all okC = true ∧ w = wr) (fun i _ => s.length - (intOf i).toNat)
  case atStart => exact ⟨0, Nat.zero_le _, rfl, rfl, rfl⟩
  case round =>
    obtain ⟨k, hk, rfl, hok, rfl⟩ := hrel
    have Hok := Lib.hid hok; clear hok
    by_cases hlt : k < s.length
    · have hps : k < (strOf s).size := by rw [HZ.out]; exact hlt
      have hget : (strOf s)[k]'hps = s[k] := rfl
      obtain ⟨c, hc⟩ : ∃ c, s[k] = c := ⟨_, rfl⟩
      rw [hc] at hget
      have hnx : ∀ W : World, (Instr.index 9 (.string (strOf s)) (.int .i64 (k : Int))).run Try.prog W = .ok (.int .u8 (c.toNat : Int)) W := fun W => by
        rw [run_index_string (h := Try.underlying9), dif_pos (by rw [HZ.out]; omega)]
        simp only [Int.toNat_natCast]
        rw [hget]
      have htk : (s.take (k + 1)).all okC = okC c := by
        rw [List.take_add_one, show s[k]? = some c from (List.getElem?_eq_getElem hlt).trans (congrArg some hc), List.all_append, Hok.out]; simp
      have hfl : okC c = false → nmOK s = false := fun h => by
        unfold nmOK
        rw [show s.all okC = false from List.all_eq_false.2 ⟨c, by rw [← hc]; exact List.getElem_mem hlt, by simp [h]⟩]
        simp
      have Htk := Lib.hid htk; have Hfl := Lib.hid hfl
      have hk8 := UInt8.toNat_lt c
      clear hc hget htk hfl
      go_wp2
      all_goals first
        | (go_ret
           refine ⟨ret_bool (Hfl.out ?_).symm, rfl⟩
           unfold okC
           rw [Bool.eq_false_iff]
           simp only [ne_eq, Bool.or_eq_true, Bool.and_eq_true, decide_eq_true_eq, beq_iff_eq]
           (try simp only [Bool.not_eq_false', Bool.not_eq_true', Bool.and_eq_true, decide_eq_true_eq, decide_eq_false_iff_not, beq_eq_false_iff_ne, ne_eq, beq_iff_eq] at *)
           omega)
        | (go_roundw
           case rel =>
             refine ⟨k + 1, by omega, by go_num, ?_, by first | rfl | trivial⟩
             rw [Htk.out]
             unfold okC
             simp only [Bool.or_eq_true, Bool.and_eq_true, decide_eq_true_eq, beq_iff_eq]
             (try simp only [Bool.not_eq_false', Bool.not_eq_true', Bool.and_eq_true, decide_eq_true_eq, decide_eq_false_iff_not, beq_eq_false_iff_ne, ne_eq, beq_iff_eq] at *)
             omega
           case measure => simp [intOf]; omega)
    · obtain rfl : k = s.length := by omega
      rw [List.take_length] at Hok
      have HE : Hid (nmOK s = (decide (1 ≤ s.length) && decide (s.length ≤ 14))) := Lib.hid (by unfold nmOK; rw [Hok.out, Bool.and_true])
      go_wp2
      all_goals
        go_ret
        refine ⟨ret_bool ?_, rfl⟩
        rw [HE.out, Bool.eq_iff_iff]
        simp [*] <;> omega
end Go.Proofs.Ytfgbkfifiioeiaa
