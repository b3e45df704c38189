/- Store: the law Rounds -/
import Derived.Test.YtnbngidelpodkaaPh
import Derived.Lib.ConvBytes
namespace Go.Proofs.Ytnbngidelpodkaa
open Go.RowKit Go.Bs Go.Cl Go.Rw Go.Un Go.Im
theorem conv_any (l : List UInt8) (hl : l.length ≤ 1000000) : ∃ (C : World → World) (cp : World → Nat), (∀ w, (convert 9 22 (.string (strOf l))).run Try.prog w = .ok (.slice (some ⟨w.heap.size, 0, none⟩) l.length (cp w)) (C w)) ∧
    (∀ w, Bytes [] (C w) (.slice (some ⟨w.heap.size, 0, none⟩) l.length (cp w)) l) ∧ (∀ w, Below w.heap.size w (C w)) := by
  have hs : (strOf l).size = l.length := by simp [strOf, ByteArray.size]
  have hd : (strOf l).data.toList = l := by simp [strOf]
  refine ⟨fun w => Lib.bytesWorld w 5 (strOf l), fun w => grownCap w (strOf l).size 0 5, fun w => ?_, fun w => ?_, fun w => ?_⟩
  · rw [Lib.run_convert_string_bytes w 9 22 5 (strOf l) Try.underlying9 Try.underlying22 Try.underlying5, hs]
  · refine ⟨by simp [bytesV], bytesV_one _, _, _, rfl, by rw [← hs]; exact grownCap_ge _ _ _ _, grownCap_le_maxLen _ _ _ _ (by rw [hs]; unfold maxLen; omega), fun h0 => ⟨w.heap.size, 0, rfl, by rw [Lib.bytesWorld_size]; omega, by simp, fun j u hj => ?_⟩⟩
    have hjl : j < l.length := by
      have := (List.getElem?_eq_some_iff.1 hj).1; simpa [bytesV] using this
    rw [Nat.zero_add, Lib.bytesWorld_cell w 5 (strOf l) j (by rw [hs]; exact hjl), hd]
    have : (bytesV l)[j]? = some (.int .u8 (l.getD j 0).toNat) := by
      unfold bytesV
      rw [List.getElem?_map, List.getElem?_eq_getElem hjl]
      simp [byteV, List.getD, hjl]
    rw [this] at hj
    exact hj
  · refine ⟨rfl, ?_, rfl, by rw [Lib.bytesWorld_size]; omega, fun k hk => Lib.bytesWorld_at_old w 5 (strOf l) k hk⟩
    rfl
/-- a slice of images -/
def ImgL (F : List Nat) (w : World) (v : Value) (ls : List (List UInt8 × Value)) : Prop := Raw F 1 w v ls.length (ls.map (·.2)) ∧ ∀ p ∈ ls, Bytes F w p.2 p.1
theorem ImgL.below {F : List Nat} {w w' : World} {v : Value} {ls : List (List UInt8 × Value)} (h : ImgL F w v ls) (hb : Below w.heap.size w w') : ImgL F w' v ls := ⟨Raw.below h.1 hb, fun p hp => Raw.below (h.2 p hp) hb⟩
/-- an element of such a slice -/
theorem ImgL.at {w : World} {a : Option Addr} {n c : Nat} {ls : List (List UInt8 × Value)} (h : ImgL [] w (.slice a n c) ls) {k : Nat} (hk : k < ls.length) :
    ∃ (b off : Nat) (x : List UInt8) (xa : Option Addr) (xc : Nat), a = some ⟨b, off, none⟩ ∧ b < w.heap.size ∧ w.cell? ⟨b, off + k, none⟩ = some (.slice xa x.length xc) ∧ Bytes [] w (.slice xa x.length xc) x ∧ ls[k]? = some (x, .slice xa x.length xc) := by
  have hg := List.getElem?_eq_getElem hk
  obtain ⟨q, hq⟩ : ∃ q, q = ls[k] := ⟨_, rfl⟩
  have hb := h.2 _ (List.mem_of_getElem? hg)
  rw [← hq] at hb hg
  obtain ⟨x, xv⟩ := q
  simp only at hb
  obtain ⟨xa, xc, rfl⟩ := Raw.slice hb
  rcases Raw.cases h.1 with ⟨h0, _⟩ | ⟨_, b, off, cap, hv, _, _, hlt, _, hc⟩
  · omega
  · cases hv
    exact ⟨b, off, x, xa, xc, rfl, hlt, hc k _ (by rw [List.getElem?_map, hg]; rfl), hb, hg⟩
set_option maxRecDepth 100000 in
set_option maxHeartbeats 8000000 in
theorem strounds_law (bv lv sv : Value) (b ss : List UInt8) (ls : List (List UInt8 × Value)) (w : World) (hB : Bytes [] w bv b) (hL : ImgL [] w lv ls) (hS : Bytes [] w sv ss) :
    Calls Try.prog 6 #[bv, lv, sv] w fun e w' => e = .returned (.bool true) ∧ Below w.heap.size w w' := by
  obtain ⟨ba, bc, rfl⟩ := Raw.slice hB
  obtain ⟨la, lc, rfl⟩ := Raw.slice hL.1
  obtain ⟨sa, sc, rfl⟩ := Raw.slice hS
  have HB0 := Lib.hid hB; have HL0 := Lib.hid hL; have HS0 := Lib.hid hS
  clear hB hL hS
  by_cases hsz : ¬ (b.length ≤ 700 ∧ ls.length ≤ 20 ∧ ls.length ≤ ss.length)
  · by_cases h1 : b.length ≤ 700
    · by_cases h2 : ls.length ≤ 20
      · have h1' : ¬ (700 : Int) < b.length := by omega
        have h2' : ¬ (20 : Int) < ls.length := by omega
        have h3' : (ss.length : Int) < ls.length := by omega
        clear hsz h1 h2
        go_enter Try.func6, Try.ntmps6
        go_wp2_with fail
        refine (awake_any _).mono ?_
        rintro e w1 ⟨rfl, hb1⟩
        go_wp2
        go_ret
        exact ⟨rfl, hb1⟩
      · have h1' : ¬ (700 : Int) < b.length := by omega
        have h2' : (20 : Int) < ls.length := by omega
        clear hsz h1 h2
        go_enter Try.func6, Try.ntmps6
        go_wp2_with fail
        refine (awake_any _).mono ?_
        rintro e w1 ⟨rfl, hb1⟩
        go_wp2
        go_ret
        exact ⟨rfl, hb1⟩
    · have h1' : (700 : Int) < b.length := by omega
      clear hsz h1
      go_enter Try.func6, Try.ntmps6
      go_wp2_with fail
      refine (awake_any _).mono ?_
      rintro e w1 ⟨rfl, hb1⟩
      go_wp2
      go_ret
      exact ⟨rfl, hb1⟩
  obtain ⟨hbl, hll, hsl⟩ := Classical.not_not.1 hsz
  clear hsz
  have h1' : ¬ (700 : Int) < b.length := by omega
  have h2' : ¬ (20 : Int) < ls.length := by omega
  have h3' : ¬ (ss.length : Int) < ls.length := by omega
  have hli : (ls.length : Int) ≤ 20 := by omega
  obtain ⟨n, hn⟩ : ∃ n, n = ls.length := ⟨_, rfl⟩
  obtain ⟨sn, hsn⟩ : ∃ n, n = ss.length := ⟨_, rfl⟩
  rw [← hn, ← hsn] at h3'
  rw [← hn] at h2' hli
  have hns : n ≤ sn := by omega
  have HN := Lib.hid hn; have HSN := Lib.hid hsn
  rw [← hn, ← hsn]
  have hn20 : n ≤ 20 := by omega
  clear hn hsn hll hsl
  go_enter Try.func6, Try.ntmps6
  go_wp2_with fail
  refine (awake_any _).mono ?_
  rintro e w1 ⟨rfl, hb1⟩
  have HB1 := Lib.hid hb1
  have HB := Lib.hid (Raw.below HB0.out hb1); have HL := Lib.hid (HL0.out.below hb1); have HS := Lib.hid (Raw.below HS0.out hb1)
  clear hb1
  go_wp2_with fail
  refine (liv_new (w0 := w1) _ b _ (by omega) (Below.refl _ _) HB.out).mono ?_
  rintro e w2 ⟨g, rfl, hL2⟩
  have HL2 := Lib.hid hL2
  have kb := run_str (HL2.out.arg HB.out) 22 5 9 Try.underlying22 Try.underlying5 Try.underlying9
  clear hL2
  go_wp2
  clear kb
  go_loopw [11, 9, 10] (fun i wt vn wr => ∃ (k vv : Nat) (m : List UInt8), k ≤ n ∧ vv ≤ k ∧ m.length ≤ 700 ∧ i = .int .i64 (k : Int) ∧ wt = .string (strOf m) ∧ vn = .int .i64 (vv : Int) ∧ Liv w1 g ⟨m, vv, false, [], 0⟩ wr) (fun i _ _ _ => n - (intOf i).toNat)
  case atStart => exact ⟨0, 0, b, by omega, by omega, hbl, rfl, rfl, rfl, HL2.out⟩
  case round =>
    obtain ⟨k, vv, m, hkn, hvk, hml, rfl, rfl, rfl, hLr⟩ := hrel
    have HR := Lib.hid hLr
    clear hLr HL2
    by_cases hlt : k < n
    · have hki : (k : Int) < n := by omega
      obtain ⟨lb, lo, x, xa, xc, hlae, hlblt, hcx, hBx, hgx⟩ := HL.out.at (k := k) (by rw [← HN.out]; exact hlt)
      subst hlae
      have c1 : wr.cell? ⟨lb, lo + k, none⟩ = some (.slice xa x.length xc) := (HR.out.1.cell (p := ⟨lb, lo + k, none⟩) hlblt).trans hcx
      have HX := Lib.hid hBx
      have HCX := Lib.hid hcx; have HLT := Lib.hid hlblt
      clear hcx hBx hgx hlblt
      by_cases hx7 : ¬ x.length ≤ 700
      · have hxi : (700 : Int) < x.length := by omega
        clear hx7
        go_wp2
        go_ret
        exact ⟨rfl, HB1.out.trans (HR.out.1.mono HB1.out.size)⟩
      have hx7 : x.length ≤ 700 := Classical.not_not.1 hx7
      have hxi : ¬ (700 : Int) < x.length := by omega
      obtain ⟨T, hT⟩ : ∃ T, T = tot m x := ⟨_, rfl⟩
      have hT7 : T ≤ 700 := by rw [hT]; have := tot_le m x; unfold cnt at this; omega
      have q1 : Hid (psBegin ⟨m, vv, false, [], 0⟩ x = (⟨m, vv, true, x, 0⟩, T, 0)) := Lib.hid (by rw [hT]; rfl)
      have HT := Lib.hid hT
      clear hT
      have hsk : k < ss.length := by rw [← HSN.out]; omega
      rcases Raw.cases HS.out with ⟨h0, _⟩ | ⟨_, sb, so, scap, hsv, _, _, hsbl, _, hsc⟩
      · omega
      obtain ⟨rfl, rfl⟩ : sa = some ⟨sb, so, none⟩ ∧ sc = scap := by cases hsv; exact ⟨rfl, rfl⟩
      have hs1 := hsc k (byteV ss[k]) (by simp [bytesV, List.getElem?_eq_getElem hsk])
      simp only [byteV] at hs1
      obtain ⟨sk, hsk'⟩ : ∃ sk, sk = ss[k].toNat := ⟨_, rfl⟩
      rw [← hsk'] at hs1
      have hs255 : sk < 256 := by rw [hsk']; exact ss[k].toNat_lt
      have HSC := Lib.hid hs1; have HSL := Lib.hid hsbl
      have hkse : (k : Int) < sn := by omega
      clear hsc hsv hs1 hsbl hsk' hsk
      obtain ⟨K, hK⟩ : ∃ K, K = sk % (T + 2) := ⟨_, rfl⟩
      have hKT : K ≤ T + 1 := by rw [hK]; have := Nat.mod_lt sk (show 0 < T + 2 by omega); omega
      have hrem : (sk : Int).tmod ((T : Int) + 2) = K := by
        rw [Int.tmod_eq_emod_of_nonneg (by omega), hK]
        have := Int.natCast_emod sk (T + 2)
        rw [Int.natCast_add] at this
        exact this.symm
      have HREM := Lib.hid hrem
      have HKT := Lib.hid hKT
      have hTi : (T : Int) ≤ 700 := by omega
      clear hrem hK hKT
      go_wp2_with fail
      refine (liv_begin _ x HR.out (by omega) (HX.out)).mono ?_
      rw [q1.out]
      rintro e w3 ⟨rfl, hL3⟩
      have HL3 := Lib.hid hL3
      clear hL3
      have c2 : w3.cell? ⟨sb, so + k, none⟩ = some (.int .u8 sk) := (HL3.out.1.cell (p := ⟨sb, so + k, none⟩) HSL.out).trans HSC.out
      have hrem := HREM.out
      clear c1
      go_upto_region 16 with (fail)
      clear hrem c2 hs255
      have hvi : (vv : Int) ≤ 20 := by omega
      go_wp2
      go_loopw [15] (fun j wq => ∃ q : Nat, q ≤ T ∧ q ≤ K ∧ j = .int .i64 (q : Int) ∧ Liv w1 g ⟨m, vv, true, x, q⟩ wq) (fun j _ => T - (intOf j).toNat)
      case atStart => exact ⟨0, by omega, by omega, rfl, HL3.out⟩
      case round =>
        obtain ⟨q, hqT, hqK, rfl, hLq⟩ := hrel
        have HQ := Lib.hid hLq
        clear hLq HL3
        by_cases hgo : q < K ∧ q < T
        · obtain ⟨hg1, hg2⟩ := hgo
          have hg1' : (q : Int) < K := by omega
          have hg2' : (q : Int) < T := by omega
          have e3 : Hid (psStep ⟨m, vv, true, x, q⟩ = (⟨m, vv, true, x, q + 1⟩, T - (q + 1), 0)) := Lib.hid (by
            simp only [psStep, Ps.steps, if_true, stepped]
            rw [← HT.out, if_neg (by simp; omega)])
          go_wp2_with fail
          refine (liv_step HQ.out).mono ?_
          rw [e3.out]
          rintro e w14 ⟨rfl, hL⟩
          have HL14 := Lib.hid hL
          clear hL
          go_wp2
          go_roundw
          case rel => exact ⟨q + 1, by omega, by omega, by go_num, HL14.out⟩
          case measure => simp [intOf]; omega
        · have hHLT := HKT.out
          by_cases hKT2 : T < K
          · have hqe : q = T := by omega
            have hqe' : q = tot m x := by rw [hqe, HT.out]
            have hqi : ¬ ((q : Int) < T) := by omega
            have hKT2' : (T : Int) < K := by omega
            have hg1' : (q : Int) < K := by omega
            have e4 : Hid (psCommit ⟨m, vv, true, x, q⟩ = (⟨x, vv + 1, false, [], 0⟩, 0)) := Lib.hid (by rw [hqe']; simp [psCommit, committed, Ps.steps])
            clear hgo hKT2 hqe hqe' hHLT hqT hqK
            go_wp2_with fail
            refine (liv_commit HQ.out (by show vv < 1000000; omega)).mono ?_
            rw [e4.out]
            rintro e w5 ⟨rfl, hL⟩
            have HF := Lib.hid hL
            have HFd := Lib.hid hL.drew
            have c1 : w5.cell? ⟨lb, lo + k, none⟩ = some (.slice xa x.length xc) := (HF.out.1.cell (p := ⟨lb, lo + k, none⟩) HLT.out).trans HCX.out
            have kx := run_str (HF.out.arg HX.out) 22 5 9 Try.underlying22 Try.underlying5 Try.underlying9
            clear hL
            obtain ⟨CW, cp, hcv, hcb, hcl⟩ := conv_any x (by omega)
            have HCB := Lib.hid hcb; have HCL := Lib.hid hcl; have HCV := Lib.hid hcv
            clear hcb hcl hcv
            have hq0 : ((strOf x).toList == (strOf x).toList) = true := by simp
            go_wp2_with fail
            refine (liv_img HF.out).mono ?_
            rintro e w10 ⟨a10, c10, rfl, ho10, hL⟩
            have HL10 := Lib.hid hL
            have k1 := run_str (Bytes.row (F := []) ho10 rfl (fun f hf => by cases hf)) 22 5 9 Try.underlying22 Try.underlying5 Try.underlying9
            clear hL ho10
            go_wp2_with fail
            refine (liv_work HL10.out).mono ?_
            rintro e w12 ⟨a12, c12, rfl, ho12, hL⟩
            have HL12 := Lib.hid hL
            have k3 := run_str (Bytes.row (F := []) ho12 rfl (fun f hf => by cases hf)) 22 5 9 Try.underlying22 Try.underlying5 Try.underlying9
            clear hL ho12
            go_wp2_with fail
            refine (liv_ver HL12.out).mono ?_
            rintro e w' ⟨rfl, rfl⟩
            have hcv := HCV.out w12
            go_wp2_with fail
            refine (liv_sum HL12.out).mono ?_
            rintro e w' ⟨rfl, rfl⟩
            have HLC := Lib.hid (HL12.out.below (HCL.out w12))
            go_wp2_with fail
            refine (of_any (F := []) _ x _ (by omega) (HCB.out w12)).mono ?_
            rintro e w13 ⟨rfl, hb13⟩
            have HL13 := Lib.hid (HLC.out.below hb13)
            clear hb13
            go_wp2
            go_roundw
            case rel => exact ⟨k + 1, vv + 1, x, by omega, by omega, hx7, by go_num, rfl, by go_num, HL13.out⟩
            case measure => simp [intOf]; omega
          · have hKi : ¬ (T : Int) < K := by omega
            have hqe : q = K := by omega
            have hqi : ¬ (q : Int) < K := by omega
            have e4 : Hid (psAbort ⟨m, vv, true, x, q⟩ = (⟨m, vv, false, [], 0⟩, 0)) := Lib.hid rfl
            clear hgo hKT2 hqe hHLT hqT hqK
            go_wp2_with fail
            refine (liv_abort HQ.out).mono ?_
            rw [e4.out]
            rintro e w5 ⟨rfl, hL⟩
            have HF := Lib.hid hL
            have HFd := Lib.hid hL.drew
            clear hL
            obtain ⟨CW, cp, hcv, hcb, hcl⟩ := conv_any m (by omega)
            have HCB := Lib.hid hcb; have HCL := Lib.hid hcl; have HCV := Lib.hid hcv
            clear hcb hcl hcv
            have hq0 : ((strOf m).toList == (strOf m).toList) = true := by simp
            go_wp2_with fail
            refine (liv_img HF.out).mono ?_
            rintro e w10 ⟨a10, c10, rfl, ho10, hL⟩
            have HL10 := Lib.hid hL
            have k1 := run_str (Bytes.row (F := []) ho10 rfl (fun f hf => by cases hf)) 22 5 9 Try.underlying22 Try.underlying5 Try.underlying9
            clear hL ho10
            go_wp2_with fail
            refine (liv_work HL10.out).mono ?_
            rintro e w12 ⟨a12, c12, rfl, ho12, hL⟩
            have HL12 := Lib.hid hL
            have k3 := run_str (Bytes.row (F := []) ho12 rfl (fun f hf => by cases hf)) 22 5 9 Try.underlying22 Try.underlying5 Try.underlying9
            clear hL ho12
            go_wp2_with fail
            refine (liv_ver HL12.out).mono ?_
            rintro e w' ⟨rfl, rfl⟩
            have hcv := HCV.out w12
            go_wp2_with fail
            refine (liv_sum HL12.out).mono ?_
            rintro e w' ⟨rfl, rfl⟩
            have HLC := Lib.hid (HL12.out.below (HCL.out w12))
            go_wp2_with fail
            refine (of_any (F := []) _ m _ (by omega) (HCB.out w12)).mono ?_
            rintro e w13 ⟨rfl, hb13⟩
            have HL13 := Lib.hid (HLC.out.below hb13)
            clear hb13
            go_wp2
            go_roundw
            case rel => exact ⟨k + 1, vv, m, by omega, by omega, hml, by go_num, rfl, rfl, HL13.out⟩
            case measure => simp [intOf]; omega
    · obtain rfl : k = n := by omega
      go_wp2
      go_ret
      exact ⟨rfl, HB1.out.trans (HR.out.1.mono HB1.out.size)⟩
end Go.Proofs.Ytnbngidelpodkaa
