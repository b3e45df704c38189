/- Undo: Decode -/
import Derived.Test.YteefimjgcabpoaaVe
namespace Go.Proofs.Yteefimjgcabpoaa
open Go.RowKit Go.Bs Go.Cl Go.Rw Go.Un Go.Wi
set_option maxRecDepth 100000 in
set_option maxHeartbeats 2000000 in
theorem decode_any (bv : Value) (b : List UInt8) (w : World) (hB : Bytes [] w bv b) (hbl : b.length ≤ 500000) :
    Calls Try.prog 27 #[bv] w (RetD (decR b) w) := by
  obtain ⟨ba, bc, rfl⟩ := Raw.slice hB
  have hbl6 : b.length ≤ 1000000 := by omega
  have HB := Lib.hid hB; clear hB
  obtain ⟨rv0, hr0⟩ : ∃ r, rB b 0 b.length (0, false) = r := ⟨_, rfl⟩
  have hbd := rB_bound b (lo := 0) (hi := b.length) (by omega) (by omega) (0, false)
  have hdec : decR b = (if rEnd b (decRN b rv0.1.toNat rv0.2 []).2 = 0 then ((decRN b rv0.1.toNat rv0.2 []).1, 0) else ([], 4)) := by unfold decR; rw [hr0]
  have Hdec := Lib.hid hdec; clear hdec
  rw [hr0] at hbd
  obtain ⟨nI, s0⟩ := rv0
  simp only at hbd Hdec
  obtain ⟨n, rfl⟩ : ∃ n : Nat, nI = n := ⟨nI.toNat, by omega⟩
  rw [Int.toNat_natCast] at Hdec
  have Hr0 := Lib.hid hr0; clear hr0
  have hn32 : n ≤ 500000 := by omega
  clear hbd
  go_enter Try.func27, Try.ntmps27
  go_wp2_with fail
  refine (wread_any _ b _ HB.out hbl6).mono ?_
  rintro e w1 ⟨g, rv, rfl, hrd, hg, hb1⟩
  have Hrd := Lib.hid hrd; clear hrd
  go_wp2_with fail
  refine (wBounded_any g rv b 0 false 0 b.length _ Hrd.out hbl6).mono ?_
  rw [Hr0.out]
  rintro e w2 ⟨rfl, hR2⟩
  have hbel2 := RdR.low hR2 hg hb1.size hb1
  have HO := Lib.hid (RdO.start (enc := encR) (k := 3) (e := 65) (base := w.heap.size) hR2.1)
  clear hR2 hb1
  go_wp2
  go_loopw [6, 15] (fun ov i wr => ∃ (k : Nat) (s : Nat × Bool) (acc : List (Rec × Value)), k ≤ n ∧ i = .int .i64 k ∧ acc.length = k ∧ decRN b (n - k) s (acc.map (·.1)) = decRN b n s0 [] ∧ RdO encR 3 93 65 wr w.heap.size g rv b s ov acc ∧ Olds (g :: ov.ownBlock.toList) wr acc ∧ Below w.heap.size w wr) (fun _ i _ => n - (intOf i).toNat)
  case atStart => exact ⟨0, s0, [], Nat.zero_le _, rfl, rfl, rfl, HO.out, (fun p hp => by cases hp), hbel2⟩
  case round =>
    clear HO hbel2
    obtain ⟨k, s, acc, hk, rfl, hacc, hdk, hO, hL, hbel⟩ := hrel
    obtain ⟨oa, oc, rfl⟩ := own_slice hO.row
    have HO := Lib.hid hO; clear hO
    have HL := Lib.hid hL; clear hL
    have Hdk := Lib.hid hdk; clear hdk
    have hsz := hbel.size
    have Hacc := Lib.hid hacc; clear hacc
    by_cases hlt : k < n
    · obtain ⟨r1, hr1⟩ : ∃ r, rI b s = r := ⟨_, rfl⟩
      obtain ⟨t, s1⟩ := r1
      obtain ⟨r2, hr2⟩ : ∃ r, rI b s1 = r := ⟨_, rfl⟩
      obtain ⟨q, s2⟩ := r2
      obtain ⟨r3, hr3⟩ : ∃ r, rY b b.length s2 = r := ⟨_, rfl⟩
      obtain ⟨y, s3⟩ := r3
      have hd2 : decRN b (n - (k + 1)) s3 (acc.map (·.1) ++ [⟨t, q, y⟩]) = decRN b n s0 [] := by
        have := Hdk.out
        rw [show n - k = (n - (k + 1)) + 1 by omega] at this
        rw [decRN_succ, hr1] at this
        simp only at this
        rw [hr2] at this
        simp only at this
        rw [hr3] at this
        exact this
      have Hd2 := Lib.hid hd2; clear hd2
      have Hr1 := Lib.hid hr1; have Hr2 := Lib.hid hr2; have Hr3 := Lib.hid hr3; clear hr1 hr2 hr3
      have hlt' : (k : Int) < n := by omega
      obtain ⟨O, hOw⟩ : ∃ O, O = (Value.ownBlock (.slice oa acc.length oc)).toList := ⟨_, rfl⟩
      go_wp2_with fail
      refine (wInt_any g rv b s.1 s.2 _ HO.out.rd hbl6).mono ?_
      rw [show ((s.1, s.2) : Nat × Bool) = s from rfl, Hr1.out]
      rintro e w3 ⟨rfl, hR3⟩
      have hbel3 := RdR.low hR3 hg hsz hbel
      have hO3 := HO.out.read hR3
      have hL3 := HL.out.read hR3 (List.mem_cons_self ..)
      rw [← hOw] at hL3
      have hgl := hO3.rd.lt
      have hal3 := (Below.refl w3.heap.size w3).alloc (Nat.le_refl _) (.cells #[.int .i64 t, .int .i64 0, .slice none 0 0] 65)
      have hO4 := hO3.below hal3
      have hbel4 := hbel3.trans (hal3.mono hbel3.size)
      have hB4 := Raw.below (hO3.apart (Nat.le_refl _)) hal3
      have hrw := hO3.rows (Nat.le_refl _)
      -- the old contents lie apart from the new block too
      have hL4 : Olds (w3.heap.size :: g :: O) (w3.alloc (.cells #[.int .i64 t, .int .i64 0, .slice none 0 0] 65)) acc := (hL3.keep (Keep.refl [] _) (fun f hf => by cases hf) (fun f hf => by
        rcases List.mem_cons.1 hf with rfl | hf
        · exact .inr (Nat.le_refl _)
        · exact .inl hf)).below hal3
      have HL4 := Lib.hid hL4
      have HO4 := Lib.hid hO4
      have Hrw := Lib.hid hrw
      have HB4 := Lib.hid hB4
      have hne : w3.heap.size ≠ g := by omega
      have hc4 := heap_alloc_new w3 (.cells #[.int .i64 t, .int .i64 0, .slice none 0 0] 65)
      have hs4 : w3.heap.size < (w3.alloc (.cells #[.int .i64 t, .int .i64 0, .slice none 0 0] 65)).heap.size := by simp
      clear hR3 hO3 hal3 hO4 hrw hB4 hL3 hL4
      simp only
      go_wp2_with fail
      refine (wInt_any g rv b s1.1 s1.2 _ HO4.out.rd hbl6).mono ?_
      rw [show ((s1.1, s1.2) : Nat × Bool) = s1 from rfl, Hr2.out]
      rintro e w5 ⟨rfl, hR5⟩
      have hbel5 := RdR.low hR5 hg hbel4.size hbel4
      have hO5 := HO4.out.read hR5
      have hL5 := HL4.out.read hR5 (by simp)
      have hblk : w5.heap[w3.heap.size]? = some (.cells #[.int .i64 t, .int .i64 0, .slice none 0 0] 65 (0, 0)) := (hR5.2.block _ (by simp) (by simpa using hne)).trans hc4
      have c1 : w5.cell? ⟨w3.heap.size, 1, none⟩ = some (.int .i64 0) := box_at hblk rfl
      have f1 := box_free hblk 1
      have hs5 : w3.heap.size < w5.heap.size := by have := hR5.2.size; simp at this; omega
      have hB5 := bytes_read HO4.out.rd HB4.out hR5
      have hk6 : Keep [w3.heap.size] w5 (w5.setCell ⟨w3.heap.size, 1, none⟩ (.int .i64 q)) := (Keep.refl [w3.heap.size] w5).setCell (by simp) _
      have hO6 := hO5.set hB5 Hrw.out hne hk6
      have hL6 := hL5.keep (F' := w3.heap.size :: g :: O) hk6 (fun f hf => .inl (by rw [List.mem_singleton.1 hf]; simp)) (fun f hf => .inl hf)
      have hB6 : Bytes [w3.heap.size] (w5.setCell ⟨w3.heap.size, 1, none⟩ (.int .i64 q)) rv b := Raw.keep hB5 hk6 (fun f hf => .inl hf) (fun f hf => .inl hf)
      have hblk6 : (w5.setCell ⟨w3.heap.size, 1, none⟩ (.int .i64 q)).heap[w3.heap.size]? = some (.cells #[.int .i64 t, .int .i64 q, .slice none 0 0] 65 (0, 0)) := by
        simp only [World.setCell, Array.getElem?_modify]; simp [hblk]
      have hbel6 : Below w.heap.size w (w5.setCell ⟨w3.heap.size, 1, none⟩ (.int .i64 q)) := hbel5.setCell (p := ⟨w3.heap.size, 1, none⟩) hbel3.size _
      have e6 : (w5.setCell ⟨w3.heap.size, 1, none⟩ (.int .i64 q)).heap.size = w5.heap.size := by simp [World.setCell]
      have HO6 := Lib.hid hO6; have HL6 := Lib.hid hL6; have HB6 := Lib.hid hB6; have Hblk6 := Lib.hid hblk6; have He6 := Lib.hid e6
      clear hR5 hO5 hL5 hB5 hk6 hO6 hL6 hB6 hblk hblk6 hc4 e6 hs4
      simp only
      go_wp2_with fail
      refine (wBytes_any g rv b s2.1 s2.2 b.length _ HO6.out.rd hbl6).mono ?_
      rw [show ((s2.1, s2.2) : Nat × Bool) = s2 from rfl, Hr3.out]
      rintro e w7 ⟨v7, rfl, hrow7, hR7⟩
      simp only at hrow7 hR7
      have hbel7 := RdR.low hR7 hg hbel6.size hbel6
      have hO7 := HO6.out.read hR7
      have hL7 := HL6.out.read hR7 (by simp)
      have hX7 : Bytes (w3.heap.size :: g :: O) w7 v7 y := BRow.bytes hrow7 (fun f hf => by
        rcases List.mem_cons.1 hf with rfl | hf
        · rw [He6.out]; exact hs5
        rcases List.mem_cons.1 hf with rfl | hf
        · exact HO6.out.rd.lt
        · rw [hOw] at hf; exact (HO6.out.row.lt f (by simpa using hf)).2)
      obtain ⟨a7, c7, rfl⟩ := own_slice hrow7
      have hs7 : w3.heap.size < w7.heap.size := by have := hR7.2.size; rw [He6.out] at this; omega
      have hblk7 : w7.heap[w3.heap.size]? = some (.cells #[.int .i64 t, .int .i64 q, .slice none 0 0] 65 (0, 0)) := (hR7.2.block _ (by rw [He6.out]; exact hs5) (by simpa using hne)).trans Hblk6.out
      have c0 : w7.cell? ⟨w3.heap.size, 0, none⟩ = some (.int .i64 t) := box_at hblk7 rfl
      have c1' : w7.cell? ⟨w3.heap.size, 1, none⟩ = some (.int .i64 q) := box_at hblk7 rfl
      have c2 : w7.cell? ⟨w3.heap.size, 2, none⟩ = some (.slice none 0 0) := box_at hblk7 rfl
      have f2 := box_free hblk7 2
      have f0 := box_free hblk7 0
      have f1' := box_free hblk7 1
      have hB7 := bytes_read HO6.out.rd HB6.out hR7
      have hk8 : Keep [w3.heap.size] w7 (w7.setCell ⟨w3.heap.size, 2, none⟩ (.slice a7 y.length c7)) := (Keep.refl [w3.heap.size] w7).setCell (by simp) _
      have hO8 := hO7.set hB7 Hrw.out hne hk8
      have hL8 := hL7.keep (F' := g :: O) hk8 (fun f hf => .inl (by rw [List.mem_singleton.1 hf]; simp)) (fun f hf => .inl (List.mem_cons_of_mem _ hf))
      have hX8 : Bytes (g :: O) (w7.setCell ⟨w3.heap.size, 2, none⟩ (.slice a7 y.length c7)) (.slice a7 y.length c7) y := Raw.keep hX7 hk8 (fun f hf => .inl (by rw [List.mem_singleton.1 hf]; simp)) (fun f hf => .inl (List.mem_cons_of_mem _ hf))
      have hbel8 : Below w.heap.size w (w7.setCell ⟨w3.heap.size, 2, none⟩ (.slice a7 y.length c7)) := hbel7.setCell (p := ⟨w3.heap.size, 2, none⟩) hbel3.size _
      have e8 : (w7.setCell ⟨w3.heap.size, 2, none⟩ (.slice a7 y.length c7)).heap.size = w7.heap.size := by simp [World.setCell]
      have hal8 := (Below.refl _ (w7.setCell ⟨w3.heap.size, 2, none⟩ (.slice a7 y.length c7))).alloc (Nat.le_refl _) (.cells #[.int .i64 t, .int .i64 q, .slice a7 y.length c7] 65)
      have hx9 : ((w7.setCell ⟨w3.heap.size, 2, none⟩ (.slice a7 y.length c7)).alloc (.cells #[.int .i64 t, .int .i64 q, .slice a7 y.length c7] 65)).heap[w7.heap.size]? = some (.cells #[.int .i64 t, .int .i64 q, .slice a7 y.length c7] 65 (0, 0)) := by
        rw [← e8]; exact heap_alloc_new _ _
      have HO9 := Lib.hid (hO8.below hal8)
      have HL9 := Lib.hid (hL8.below hal8)
      have HX9 := Lib.hid (Raw.below hX8 hal8)
      have hbel9 : Below w.heap.size w ((w7.setCell ⟨w3.heap.size, 2, none⟩ (.slice a7 y.length c7)).alloc (.cells #[.int .i64 t, .int .i64 q, .slice a7 y.length c7] 65)) := hbel8.trans (hal8.mono hbel8.size)
      have HV9 := Lib.hid (box3 w7.heap.size (⟨t, q, y⟩, .slice a7 y.length c7) rfl hx9)
      have hsz9 := hbel9.size
      clear hR7 hO7 hL7 hX7 hB7 hk8 hO8 hL8 hX8 hal8 hx9 e8 hbel8 hblk7 hrow7
      simp only
      go_wp2_with (at_builtin; go_loud (refine wpList_appF el29 Try.underlying29 HO9.out.row HV9.out hbel9 rfl _ _ rfl rfl rfl ?c3 ?cB ?c5 ?_))
      case c3 => have := Hacc.out; omega
      case cB => exact Nat.le_refl _
      case c5 => simpa [World.setCell] using hsz9
      intro v8 w8 hown8 hbel8 hk8 hn8
      have HO8 := Lib.hid (HO9.out.push (x := (⟨t, q, y⟩, .slice a7 y.length c7)) hown8 hk8 (by simpa [World.setCell] using hn8))
      subst hOw
      have HL8 := Lib.hid (HL9.out.push (r := ⟨t, q, y⟩) (O' := v8.ownBlock.toList) HX9.out hk8 (by simpa [World.setCell] using hn8))
      obtain ⟨a8, c8, rfl⟩ := own_slice hown8
      clear hown8 hk8 hn8
      go_wp2
      go_roundw
      case rel => exact ⟨k + 1, s3, _, hlt, by go_num, by have := Hacc.out; simp; omega, by rw [List.map_append]; exact Hd2.out, HO8.out, HL8.out, hbel8⟩
      case measure => simp [intOf]; omega
    · obtain rfl : k = n := by omega
      have hfin := Hdk.out
      rw [Nat.sub_self] at hfin
      have hfin : decRN b k s0 [] = (acc.map (·.1), s) := hfin.symm
      rw [hfin] at Hdec
      have HS := Lib.hid (Recs.of_own HO.out.row HL.out)
      clear hfin
      go_wp2_with fail
      refine (wend_any g rv b s.1 s.2 _ HO.out.rd hbl6).mono ?_
      rintro e w3 ⟨rfl, hb3⟩
      have hbel3 := hbel.trans (hb3.mono hsz)
      have HS3 := Lib.hid (HS.out.below hb3)
      clear hb3
      rw [show ((s.1, s.2) : Nat × Bool) = s from rfl]
      rcases rEnd_cases b s with hre | hre
      · rw [hre] at Hdec ⊢
        have Hd : Hid (decR b = (acc.map (·.1), 0)) := Lib.hid (by rw [Hdec.out]; rfl)
        go_wp2
        go_ret2
        rw [Hd.out]
        exact ⟨_, acc, rfl, HS3.out, rfl, hbel3⟩
      · rw [hre] at Hdec ⊢
        have Hd : Hid (decR b = ([], 4)) := Lib.hid (by rw [Hdec.out]; rfl)
        go_wp2
        go_ret2
        rw [Hd.out]
        exact ⟨_, [], rfl, ⟨Raw.empty _ _ _, fun p hp => by cases hp⟩, rfl, hbel3⟩
end Go.Proofs.Yteefimjgcabpoaa
