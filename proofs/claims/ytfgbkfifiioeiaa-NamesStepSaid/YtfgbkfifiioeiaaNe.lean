/- names: Decode, the reference's Decode -/
import Derived.Test.YtfgbkfifiioeiaaNd
namespace Go.Nm
open Go Go.RowKit Go.Bs Go.Cl Go.Rw Go.Wi
def decN (b : List UInt8) : Nat → Nat × Bool → List Nm → List Nm × Nat × Bool
  | 0, s, acc => (acc, s)
  | n + 1, s, acc => decN b n (rI b (rY b 14 s).2).2 (acc ++ [⟨(rY b 14 s).1, (rI b (rY b 14 s).2).1⟩])
theorem decN_succ (b : List UInt8) (n : Nat) (s : Nat × Bool) (acc : List Nm) : decN b (n + 1) s acc = decN b n (rI b (rY b 14 s).2).2 (acc ++ [⟨(rY b 14 s).1, (rI b (rY b 14 s).2).1⟩]) := rfl
/-- the state with an image, or nothing, and the error -/
def decL (b : List UInt8) : List Nm × Int :=
  let r := decN b (rB b 0 40 (0, false)).1.toNat (rB b 0 40 (0, false)).2 []
  if decide (rEnd b r.2 = 0) && validN r.1 then (r.1, 0) else ([], 4)
def RetD (r : List Nm × Int) (w : World) (e : Ending) (w' : World) : Prop := ∃ v, e = .returned (.tuple #[v, .int .i64 r.2]) ∧ SlN w' v r.1 ∧ Below w.heap.size w w'
theorem rEnd_cases (b : List UInt8) (s : Nat × Bool) : rEnd b s = 0 ∨ rEnd b s = 4 := by
  unfold rEnd
  split
  · exact .inr rfl
  · exact .inl rfl
theorem rY_len (b : List UInt8) (most : Int) (hm : 0 ≤ most) (s : Nat × Bool) : ((rY b most s).1.length : Int) ≤ most := by
  unfold rY
  split
  · simp; omega
  · split
    · rename_i x m h
      unfold rdY at h
      split at h
      · rename_i y n hy
        have hle := rdB_le hy
        split at h
        · rename_i hfit
          injection h with h
          injection h with h1 h2
          have := sub_len hfit
          rw [← h1, this]
          omega
        · cases h
      · cases h
    · simp; omega
theorem boxN {w : World} (g : Nat) (x : Nm) {t : TypeId} (h : w.heap[g]? = some (.cells #[.string (strOf x.s), .int .i64 x.t] t (0, 0))) : Raw [] 2 w (.slice (some ⟨g, 0, none⟩) 1 1) 1 (encN x) :=
  Raw.of_block (ys := encN x) h (by intro h; cases h) (fun u hu => by simp [encN] at hu; rcases hu with rfl | rfl <;> rfl) rfl (Nat.le_refl _) (by unfold maxLen; omega)
end Go.Nm
namespace Go.Proofs.Ytfgbkfifiioeiaa
open Go.RowKit Go.Bs Go.Cl Go.Rw Go.Nm Go.Wi
theorem el28 : Rw.Elem Try.prog 28 59 2 24 (.agg #[.string ⟨#[]⟩, .int .i64 0]) := ⟨Try.underlying28, by kernel_rfl, rfl, by decide⟩
theorem el22 : Rw.Elem Try.prog 22 57 2 24 (.agg #[.string ⟨#[]⟩, .int .i64 0]) := ⟨Try.underlying22, by kernel_rfl, rfl, by decide⟩
set_option maxHeartbeats 1000000 in
theorem wStr_any (g : Nat) (bv : Value) (b : List UInt8) (at_ : Nat) (fl : Bool) (most : Int) (w : World) (h : RdAt 86 w g bv b at_ fl) (hbl : b.length ≤ 1000000) :
    Calls Try.prog 27 #[.pointer (some ⟨g, 0, none⟩), .int .i64 most] w fun e w' => e = .returned (.string (strOf (rY b most (at_, fl)).1)) ∧ RdR 86 w g bv b (rY b most (at_, fl)).2 w' := by
  have H := Lib.hid h; clear h
  go_enter Try.func27, Try.ntmps27
  go_wp2_with fail
  refine (wBytes_any g bv b at_ fl most _ H.out hbl).mono ?_
  obtain ⟨r, hr⟩ : ∃ r, rY b most (at_, fl) = r := ⟨_, rfl⟩
  have HRR := Lib.hid hr
  rw [hr]
  clear hr
  rintro e w1 ⟨v, rfl, hrow, hrd⟩
  have k1 := run_str (BRow.bytes (F := []) hrow (fun f hf => by cases hf)) 23 5 9 Try.underlying23 Try.underlying5 Try.underlying9
  obtain ⟨a, c, rfl⟩ := own_slice hrow
  have HR := Lib.hid hrd
  clear hrow hrd
  go_wp2
  go_ret
  rw [HRR.out]
  exact ⟨rfl, HR.out⟩
set_option maxRecDepth 100000 in
set_option maxHeartbeats 2000000 in
theorem decode_any (bv : Value) (b : List UInt8) (w : World) (hB : Bytes [] w bv b) (hbl : b.length ≤ 1000000) :
    Calls Try.prog 13 #[bv] w (RetD (decL b) w) := by
  obtain ⟨ba, bc, rfl⟩ := Raw.slice hB
  have HB := Lib.hid hB; clear hB
  obtain ⟨rv0, hr0⟩ : ∃ r, rB b 0 40 (0, false) = r := ⟨_, rfl⟩
  have hbd := rB_bound b (lo := 0) (hi := 40) (by omega) (by omega) (0, false)
  have hdec : decL b = (if decide (rEnd b (decN b rv0.1.toNat rv0.2 []).2 = 0) && validN (decN b rv0.1.toNat rv0.2 []).1 then ((decN b rv0.1.toNat rv0.2 []).1, 0) else ([], 4)) := by unfold decL; rw [hr0]
  have Hdec := Lib.hid hdec; clear hdec
  rw [hr0] at hbd
  obtain ⟨nI, s0⟩ := rv0
  simp only at hbd Hdec
  obtain ⟨n, rfl⟩ : ∃ n : Nat, nI = n := ⟨nI.toNat, by omega⟩
  rw [Int.toNat_natCast] at Hdec
  have Hr0 := Lib.hid hr0; clear hr0
  have hn32 : n ≤ 40 := by omega
  clear hbd
  go_enter Try.func13, Try.ntmps13
  go_wp2_with fail
  refine (wread_any _ b _ HB.out hbl).mono ?_
  rintro e w1 ⟨g, rv, rfl, hrd, hg, hb1⟩
  have Hrd := Lib.hid hrd; clear hrd
  go_wp2_with fail
  refine (wBounded_any g rv b 0 false 0 40 _ Hrd.out hbl).mono ?_
  rw [Hr0.out]
  rintro e w2 ⟨rfl, hR2⟩
  have hbel2 := RdR.low hR2 hg hb1.size hb1
  have HO := Lib.hid (RdO.start (enc := encN) (k := 2) (e := 59) (base := w.heap.size) hR2.1)
  clear hR2 hb1
  go_wp2
  go_loopw [5, 11] (fun ov i wr => ∃ (k : Nat) (s : Nat × Bool) (acc : List Nm), k ≤ n ∧ i = .int .i64 k ∧ acc.length = k ∧ decN b (n - k) s acc = decN b n s0 [] ∧ (∀ x ∈ acc, (x.s.length : Int) ≤ 14) ∧ RdO encN 2 86 59 wr w.heap.size g rv b s ov acc ∧ Below w.heap.size w wr) (fun _ i _ => n - (intOf i).toNat)
  case atStart => exact ⟨0, s0, [], Nat.zero_le _, rfl, rfl, rfl, fun x hx => (by cases hx), HO.out, hbel2⟩
  case round =>
    clear HO hbel2
    obtain ⟨k, s, acc, hk, rfl, hacc, hdk, hsm, hO, hbel⟩ := hrel
    obtain ⟨oa, oc, rfl⟩ := own_slice hO.row
    have HO := Lib.hid hO; clear hO
    have Hdk := Lib.hid hdk; clear hdk
    have hsz := hbel.size
    have Hacc := Lib.hid hacc; clear hacc
    have Hsm := Lib.hid hsm; clear hsm
    by_cases hlt : k < n
    · obtain ⟨r1, hr1⟩ : ∃ r, rY b 14 s = r := ⟨_, rfl⟩
      have hnl := rY_len b 14 (by omega) s
      rw [hr1] at hnl
      obtain ⟨nm, s1⟩ := r1
      simp only at hnl
      obtain ⟨r2, hr2⟩ : ∃ r, rI b s1 = r := ⟨_, rfl⟩
      obtain ⟨q, s2⟩ := r2
      have hd2 : decN b (n - (k + 1)) s2 (acc ++ [⟨nm, q⟩]) = decN b n s0 [] := by
        have := Hdk.out
        rw [show n - k = (n - (k + 1)) + 1 by omega] at this
        rw [decN_succ, hr1] at this
        simp only at this
        rw [hr2] at this
        exact this
      have Hd2 := Lib.hid hd2; clear hd2
      have Hr1 := Lib.hid hr1; have Hr2 := Lib.hid hr2; clear hr1 hr2
      have hlt' : (k : Int) < n := by omega
      go_wp2_with fail
      refine (wStr_any g rv b s.1 s.2 14 _ HO.out.rd hbl).mono ?_
      rw [show ((s.1, s.2) : Nat × Bool) = s from rfl, Hr1.out]
      rintro e w3 ⟨rfl, hR3⟩
      have hbel3 := RdR.low hR3 hg hsz hbel
      have HO3 := Lib.hid (HO.out.read hR3)
      clear hR3
      simp only
      go_wp2_with fail
      refine (wInt_any g rv b s1.1 s1.2 _ HO3.out.rd hbl).mono ?_
      rw [show ((s1.1, s1.2) : Nat × Bool) = s1 from rfl, Hr2.out]
      rintro e w5 ⟨rfl, hR5⟩
      have hbel5 := RdR.low hR5 hg hbel3.size hbel3
      have hO5 := HO3.out.read hR5
      have hal5 := (Below.refl w5.heap.size w5).alloc (Nat.le_refl _) (.cells #[.string (strOf nm), .int .i64 q] 59)
      have HO7 := Lib.hid (hO5.below hal5)
      have hbel7 := hbel5.trans (hal5.mono hbel5.size)
      have HX7 := Lib.hid (boxN w5.heap.size ⟨nm, q⟩ (heap_alloc_new w5 (.cells #[.string (strOf nm), .int .i64 q] 59)))
      clear hR5 hO5 hal5
      simp only
      go_wp2_with (at_builtin; refine wpList_appF el28 Try.underlying28 HO7.out.row HX7.out hbel7 rfl _ _ rfl rfl rfl ?c3 ?cB ?c5 ?_)
      case c3 => have := Hacc.out; omega
      case c5 => first | exact hbel7.size | exact Nat.le_succ_of_le hbel5.size
      intro v8 w8 hown8 hbel8 hk8 hn8
      have HO8 := Lib.hid (HO7.out.push (x := ⟨nm, q⟩) hown8 hk8 (by simpa using hn8))
      obtain ⟨a8, c8, rfl⟩ := own_slice hown8
      clear hown8 hk8 hn8
      go_wp2
      go_roundw
      case rel => exact ⟨k + 1, s2, _, hlt, by go_num, by have := Hacc.out; simp; omega, Hd2.out, fun x hx => by
        rcases List.mem_append.1 hx with hx | hx
        · exact Hsm.out x hx
        · rw [List.mem_singleton.1 hx]; exact hnl, HO8.out, hbel8⟩
      case measure => simp [intOf]; omega
    · obtain rfl : k = n := by omega
      have hfin := Hdk.out
      rw [Nat.sub_self] at hfin
      have hfin : decN b k s0 [] = (acc, s) := hfin.symm
      rw [hfin] at Hdec
      have HS := Lib.hid (SlN.of_own HO.out.row)
      have hacc3 := Hacc.out
      have hacc6 : acc.length ≤ 1000000 := by omega
      clear hfin hacc3
      go_wp2_with fail
      refine (wend_any g rv b s.1 s.2 _ HO.out.rd hbl).mono ?_
      rintro e w3 ⟨rfl, hb3⟩
      have hbel3 := hbel.trans (hb3.mono hsz)
      have HS3 := Lib.hid (HS.out.below hb3)
      clear hb3
      rw [show ((s.1, s.2) : Nat × Bool) = s from rfl]
      rcases rEnd_cases b s with hre | hre
      · rw [hre] at Hdec ⊢
        go_wp2_with fail
        refine (valid_any _ acc _ hacc6 HS3.out).mono ?_
        rintro e w4 ⟨rfl, hb4⟩
        have hbel4 := hbel3.trans (hb4.mono hbel3.size)
        have HS4 := Lib.hid (HS3.out.below hb4)
        clear hb4
        cases hv : validN acc
        · rw [hv] at Hdec
          have Hd : Hid (decL b = ([], 4)) := Lib.hid (by rw [Hdec.out]; rfl)
          clear hv
          go_wp2
          go_ret2
          rw [Hd.out]
          exact ⟨_, rfl, Raw.empty _ _ _, hbel4⟩
        · rw [hv] at Hdec
          have Hd : Hid (decL b = (acc, 0)) := Lib.hid (by rw [Hdec.out]; rfl)
          clear hv
          go_wp2
          go_ret2
          rw [Hd.out]
          exact ⟨_, rfl, HS4.out, hbel4⟩
      · rw [hre] at Hdec ⊢
        have Hd : Hid (decL b = ([], 4)) := Lib.hid (by rw [Hdec.out]; rfl)
        go_wp2
        go_ret2
        rw [Hd.out]
        exact ⟨_, rfl, Raw.empty _ _ _, hbel3⟩
set_option maxRecDepth 100000 in
set_option maxHeartbeats 4000000 in
theorem rdecode_any (bv : Value) (b : List UInt8) (w : World) (hB : Bytes [] w bv b) (hbl : b.length ≤ 1000000) :
    Calls Try.prog 14 #[bv] w (RetD (decL b) w) := by
  obtain ⟨ba, bc, rfl⟩ := Raw.slice hB
  obtain ⟨rv0, hr0⟩ : ∃ r, rB b 0 40 (0, false) = r := ⟨_, rfl⟩
  have hbd := rB_bound b (lo := 0) (hi := 40) (by omega) (by omega) (0, false)
  have hdec : decL b = (if decide (rEnd b (decN b rv0.1.toNat rv0.2 []).2 = 0) && validN (decN b rv0.1.toNat rv0.2 []).1 then ((decN b rv0.1.toNat rv0.2 []).1, 0) else ([], 4)) := by unfold decL; rw [hr0]
  have Hdec := Lib.hid hdec; clear hdec
  rw [hr0] at hbd
  obtain ⟨nI, s0⟩ := rv0
  simp only at hbd Hdec
  obtain ⟨n, rfl⟩ : ∃ n : Nat, nI = n := ⟨nI.toNat, by omega⟩
  rw [Int.toNat_natCast] at Hdec
  have Hr0 := Lib.hid hr0; clear hr0
  have hn32 : n ≤ 40 := by omega
  clear hbd
  obtain ⟨g, hgd⟩ : ∃ g, g = w.heap.size := ⟨_, rfl⟩
  obtain ⟨w1, hw1⟩ : ∃ W, W = w.alloc (.cells #[.slice ba b.length bc, .int .i64 0, .bool false] 69) := ⟨_, rfl⟩
  have hal2 : Below w.heap.size w w1 := by rw [hw1]; exact (Below.refl w.heap.size w).alloc (Nat.le_refl _) _
  have hby : Bytes [g] w1 (.slice ba b.length bc) b := Raw.keep hB (Keep.of_below' (F := []) hal2) (fun f hf => by cases hf) (fun f hf => by rw [List.mem_singleton.1 hf, hgd]; exact .inr (Nat.le_refl _))
  have hrd : RdAt 69 w1 g (.slice ba b.length bc) b 0 false := ⟨by rw [hw1, hgd]; exact heap_alloc_new w _, hby, Nat.zero_le _⟩
  have hg : w.heap.size ≤ g := by omega
  have HG := Lib.hid hgd; have HW := Lib.hid hw1; have Hrd := Lib.hid hrd; have Hbel := Lib.hid hal2
  obtain ⟨rv, hrv⟩ : ∃ rv : Value, rv = .slice ba b.length bc := ⟨_, rfl⟩
  have Hrv := Lib.hid hrv
  rw [← hrv] at Hrd
  clear hal2 hby hrd hgd hw1 hrv hB
  go_enter Try.func14, Try.ntmps14
  go_upto_region 2 with (fail)
  rw [← HW.out, ← HG.out]
  clear HW HG
  go_wp2_with fail
  refine (rBounded_any g rv b 0 false 0 40 _ Hrd.out hbl).mono ?_
  rw [Hr0.out]
  rintro e w2 ⟨rfl, hR2⟩
  have hbel2 := RdR.low hR2 hg Hbel.out.size Hbel.out
  have HO := Lib.hid (RdO.start (enc := encN) (k := 2) (e := 57) (base := w.heap.size) hR2.1)
  clear hR2
  go_wp2
  go_loopw [6, 7] (fun ov i wr => ∃ (k : Nat) (s : Nat × Bool) (acc : List Nm), k ≤ n ∧ i = .int .i64 k ∧ acc.length = k ∧ decN b (n - k) s acc = decN b n s0 [] ∧ (∀ x ∈ acc, (x.s.length : Int) ≤ 14) ∧ RdO encN 2 69 57 wr w.heap.size g rv b s ov acc ∧ Below w.heap.size w wr) (fun _ i _ => n - (intOf i).toNat)
  case atStart => exact ⟨0, s0, [], Nat.zero_le _, rfl, rfl, rfl, fun x hx => (by cases hx), HO.out, hbel2⟩
  case round =>
    clear HO hbel2
    obtain ⟨k, s, acc, hk, rfl, hacc, hdk, hsm, hO, hbel⟩ := hrel
    obtain ⟨oa, oc, rfl⟩ := own_slice hO.row
    have HO := Lib.hid hO; clear hO
    have Hdk := Lib.hid hdk; clear hdk
    have hsz := hbel.size
    have Hacc := Lib.hid hacc; clear hacc
    have Hsm := Lib.hid hsm; clear hsm
    by_cases hlt : k < n
    · obtain ⟨r1, hr1⟩ : ∃ r, rY b 14 s = r := ⟨_, rfl⟩
      have hnl := rY_len b 14 (by omega) s
      rw [hr1] at hnl
      obtain ⟨nm, s1⟩ := r1
      simp only at hnl
      obtain ⟨r2, hr2⟩ : ∃ r, rI b s1 = r := ⟨_, rfl⟩
      obtain ⟨q, s2⟩ := r2
      have hd2 : decN b (n - (k + 1)) s2 (acc ++ [⟨nm, q⟩]) = decN b n s0 [] := by
        have := Hdk.out
        rw [show n - k = (n - (k + 1)) + 1 by omega] at this
        rw [decN_succ, hr1] at this
        simp only at this
        rw [hr2] at this
        exact this
      have Hd2 := Lib.hid hd2; clear hd2
      have Hr1 := Lib.hid hr1; have Hr2 := Lib.hid hr2; clear hr1 hr2
      have hlt' : (k : Int) < n := by omega
      go_wp2_with fail
      refine (rBytes_any g rv b s.1 s.2 14 _ HO.out.rd hbl).mono ?_
      rw [show ((s.1, s.2) : Nat × Bool) = s from rfl, Hr1.out]
      rintro e w3 ⟨v3, rfl, hrow3, hR3⟩
      have hbel3 := RdR.low hR3 hg hsz hbel
      have HO3 := Lib.hid (HO.out.read hR3)
      have hgl := HO.out.rd.lt
      have hF : ∀ f ∈ g :: (Value.ownBlock (.slice oa acc.length oc)).toList, f < wr.heap.size := fun f hf => by
        rcases List.mem_cons.1 hf with rfl | hf
        · exact hgl
        · exact (HO.out.row.lt f (by simpa using hf)).2
      have hN3 := BRow.bytes hrow3 hF
      obtain ⟨bln, q1, q2⟩ := Raw.blocks hN3 (by omega)
      have Hinn := Lib.hid q1
      have Hbln := Lib.hid (fun b hb => (q2 b hb).2)
      have Hgn : Hid (∀ q ∈ bln, q ≠ g) := Lib.hid (fun q hq e => (q2 q hq).1 (by rw [e]; simp))
      have Hov : Hid (∀ q ∈ bln, q ∉ (Value.ownBlock (.slice oa acc.length oc)).toList) := Lib.hid (fun q hq hm => (q2 q hq).1 (List.mem_cons_of_mem _ hm))
      have HN3 := Lib.hid hN3
      obtain ⟨a3, c3, hv3⟩ := own_slice hrow3
      subst hv3
      clear hR3 hrow3 hF hN3 q1 q2 hgl
      simp only
      go_upto_region 8 with (fail)
      have hBl := show ∀ q ∈ bln, ∃ cc e f, w3.heap[q]? = some (.cells cc e f) from fun q hq => Hbln.out q hq
      refine Txt.Ty.wp_tree (bln) [2] [] [2] [0, 1, 2, 3] (.alt [4, 5] (.alt [6] (.alt [7, 8] (.done) (.no)) (.no)) (.no)) (by kernel_rfl) (by kernel_rfl) (by kernel_rfl) (by kernel_rfl) hBl ?_
      obtain ⟨y0, hy0⟩ : ∃ y, y = w3.drew := ⟨_, rfl⟩
      have HS0 : Hid (Txt.SameB bln y0 y0) := Lib.hid (by rw [hy0]; exact same_start hBl)
      clear hBl
      rw [← hy0]
      have hd : Below w3.heap.size w3 y0 := by rw [hy0]; exact (Below.refl _ _).drew
      have hbel3 := hbel3.trans (hd.mono hbel3.size)
      have HO3 := Lib.hid (HO3.out.below hd)
      have k1 := run_str (Raw.below HN3.out hd) 23 5 9 Try.underlying23 Try.underlying5 Try.underlying9
      clear hd hy0
      (try simp only [Txt.pick, List.getElem?_cons_succ, List.getElem?_cons_zero])
      go_wp2
      refine Txt.RunPost.mk ?_
      refine Txt.Ty.wpTr_alt ?_ Txt.Ty.wpTr_no
      (try simp only [Txt.pick, List.getElem?_cons_succ, List.getElem?_cons_zero])
      go_wp2_with fail
      refine (rInt_any g rv b s1.1 s1.2 _ HO3.out.rd hbl).mono ?_
      rw [show ((s1.1, s1.2) : Nat × Bool) = s1 from rfl, Hr2.out]
      rintro e w5 ⟨rfl, hR5⟩
      have HS5 := Lib.hid (same_keep HS0.out hR5.2 (fun q hq hm => Hgn.out q hq (List.mem_singleton.1 hm)))
      have hbel5 := RdR.low hR5 hg hbel3.size hbel3
      have hO5 := HO3.out.read hR5
      clear k1
      go_wp2
      refine Txt.SegPost.mk (Txt.Ty.Shown.same HS5.out) ?_
      (try simp only [Txt.pick, List.getElem?_cons_succ, List.getElem?_cons_zero])
      go_wp2
      refine Txt.RunPost.mk ?_
      refine Txt.Ty.wpTr_alt ?_ Txt.Ty.wpTr_no
      (try simp only [Txt.pick, List.getElem?_cons_succ, List.getElem?_cons_zero])
      have hal5 := (Below.refl w5.heap.size w5).alloc (Nat.le_refl _) (.cells #[.string (strOf nm), .int .i64 q] 57)
      have HO7 := Lib.hid (hO5.below hal5)
      have hbel7 := hbel5.trans (hal5.mono hbel5.size)
      have HX7 := Lib.hid (boxN w5.heap.size ⟨nm, q⟩ (heap_alloc_new w5 (.cells #[.string (strOf nm), .int .i64 q] 57)))
      have HS6 := Lib.hid (same_below' HS5.out hal5)
      clear hR5 hO5 hal5
      go_wp2
      refine Txt.SegPost.mk (Txt.Ty.Shown.same HS6.out) ?_
      (try simp only [Txt.pick, List.getElem?_cons_succ, List.getElem?_cons_zero])
      go_wp2
      refine Txt.RunPost.mk ?_
      refine Txt.Ty.wpTr_alt ?_ Txt.Ty.wpTr_no
      (try simp only [Txt.pick, List.getElem?_cons_succ, List.getElem?_cons_zero])
      go_wp2_with (at_builtin; refine wpList_appF el22 Try.underlying22 HO7.out.row HX7.out hbel7 rfl _ _ rfl rfl rfl ?c3 ?cB ?c5 ?_)
      case c3 => have := Hacc.out; omega
      case cB => exact Nat.le_refl _
      case c5 => first | exact hbel7.size | exact Nat.le_succ_of_le hbel5.size
      intro v8 w8 hown8 hbel8 hk8 hn8
      have HO8 := Lib.hid (HO7.out.push (x := ⟨nm, q⟩) hown8 hk8 (by simpa using hn8))
      have HS7 := Lib.hid (same_keep HS6.out hk8 (fun q' hq hm => Hov.out q' hq hm))
      obtain ⟨a8, c8, hv8⟩ := own_slice hown8
      subst hv8
      clear hown8 hk8 hn8
      go_wp2
      refine Txt.SegPost.mk (Txt.Ty.Shown.same HS7.out) ?_
      (try simp only [Txt.pick, List.getElem?_cons_succ, List.getElem?_cons_zero])
      go_wp2
      refine Txt.RunPost.mk ?_
      refine Txt.Ty.wpTr_done (by rfl) ⟨Hinn.out _ (fun q hq => hq), trivial⟩ ?_
      go_wp2
      go_roundw
      case rel => exact ⟨k + 1, s2, _, hlt, by go_num, by have := Hacc.out; simp; omega, Hd2.out, fun x hx => by
        rcases List.mem_append.1 hx with hx | hx
        · exact Hsm.out x hx
        · rw [List.mem_singleton.1 hx]; exact hnl, HO8.out, hbel8⟩
      case measure => simp [intOf]; omega
    · obtain rfl : k = n := by omega
      have hfin := Hdk.out
      rw [Nat.sub_self] at hfin
      have hfin : decN b k s0 [] = (acc, s) := hfin.symm
      rw [hfin] at Hdec
      have HS := Lib.hid (SlN.of_own HO.out.row)
      have hacc3 := Hacc.out
      have hacc6 : acc.length ≤ 1000000 := by omega
      clear hfin hacc3
      go_wp2_with fail
      refine (rend_any g rv b s.1 s.2 _ HO.out.rd hbl).mono ?_
      rintro e w3 ⟨rfl, hb3⟩
      have hbel3 := hbel.trans (hb3.mono hsz)
      have HS3 := Lib.hid (HS.out.below hb3)
      clear hb3
      rw [show ((s.1, s.2) : Nat × Bool) = s from rfl]
      rcases rEnd_cases b s with hre | hre
      · rw [hre] at Hdec ⊢
        go_wp2_with fail
        refine (rvalid_any _ acc _ hacc6 (fun x hx => by have := Hsm.out x hx; omega) HS3.out).mono ?_
        rintro e w4 ⟨rfl, hb4⟩
        have hbel4 := hbel3.trans (hb4.mono hbel3.size)
        have HS4 := Lib.hid (HS3.out.below hb4)
        clear hb4
        cases hv : validN acc
        · rw [hv] at Hdec
          have Hd : Hid (decL b = ([], 4)) := Lib.hid (by rw [Hdec.out]; rfl)
          clear hv
          go_wp2
          go_ret2
          rw [Hd.out]
          exact ⟨_, rfl, Raw.empty _ _ _, hbel4⟩
        · rw [hv] at Hdec
          have Hd : Hid (decL b = (acc, 0)) := Lib.hid (by rw [Hdec.out]; rfl)
          clear hv
          go_wp2
          go_ret2
          rw [Hd.out]
          exact ⟨_, rfl, HS4.out, hbel4⟩
      · rw [hre] at Hdec ⊢
        have Hd : Hid (decL b = ([], 4)) := Lib.hid (by rw [Hdec.out]; rfl)
        go_wp2
        go_ret2
        rw [Hd.out]
        exact ⟨_, rfl, Raw.empty _ _ _, hbel3⟩
end Go.Proofs.Ytfgbkfifiioeiaa
