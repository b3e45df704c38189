/- Undo: the walk of UndoTorn -/
import Derived.Test.YteefimjgcabpoaaUz
namespace Go.Un
open Go Go.RowKit Go.Bs Go.Cl Go.Rw
/-- a write: an error, or a record that takes back whatever has changed within its range -/
theorem stp_torn {img : List UInt8} {rs : List Rec} {n : Int} {d : List UInt8} (hil : img.length ≤ 2000) :
    (∃ e : Int, (e == 0) = false ∧ (e != 0) = true ∧ stp ⟨img, rs, true⟩ 1 n d = (⟨img, rs, true⟩, e)) ∨ ∃ (m : Nat) (img' : List UInt8) (r : Rec), n = m ∧ m + d.length ≤ img.length ∧ stp ⟨img, rs, true⟩ 1 n d = (⟨img', rs ++ [r], true⟩, 0) ∧ img'.length = img.length ∧ (∀ p, (p < m ∨ m + d.length ≤ p) → img'[p]? = img[p]?) ∧
      ∀ t : List UInt8, t.length = img.length → (∀ p, (p < m ∨ m + d.length ≤ p) → t[p]? = img[p]?) → Undoes r t img := by
  by_cases hb : n < 0 ∨ (img.length : Int) < n ∨ (img.length : Int) - n < d.length
  · exact .inl ⟨2, rfl, rfl, stp_write_bad hb⟩
  · obtain ⟨m, rfl⟩ : ∃ m : Nat, n = m := ⟨n.toNat, by omega⟩
    have h1 : m + d.length ≤ img.length := by omega
    exact .inr ⟨m, _, _, rfl, h1, stp_write hb, written_len h1, fun p hp => by rw [written_get h1, if_neg (by omega)], fun t ht ho => undoes_write (by omega) h1 t ht ho⟩
theorem LogAt.apart {w w' : World} {base g : Nat} {iv rv : Value} {img : List UInt8} {rs : List (Rec × Value)} {o : Bool} {G : List Nat} (h : LogAt w base g iv rv img rs o) (hk : Keep G w w') (hG : ∀ f ∈ LogF g iv rv, f ∉ G) (hb : ∀ p ∈ rs, Bytes G w p.2 p.1.old) : LogAt w' base g iv rv img rs o :=
  ⟨h.hg, (hk.block g h.lt (hG g (by simp [LogF]))).trans h.hc, own_keep h.hi hk (fun r hr => hG r (by simp [LogF, hr])), h.hr.keep hk (fun r hr => hG r (by simp [LogF, hr])), fun p hp =>
    Raw.keep (Raw.both (hb p hp) (h.hb p hp)) hk (fun f hf => .inl (List.mem_append_left _ hf)) (fun f hf => .inl (List.mem_append_right _ hf))⟩
theorem bytesV_set (l : List UInt8) (i : Nat) (x : UInt8) : (bytesV l).set i (byteV x) = bytesV (l.set i x) := by simp [bytesV, List.map_set]
theorem bytesV_get {l : List UInt8} {i : Nat} (h : i < l.length) : (bytesV l)[i]? = some (byteV l[i]) := by simp [bytesV, h]
theorem ok_fits {r : Rec} (h : r.ok = true) : r.fits := by have := Rec.ok_iff.1 h; unfold Rec.fits; omega
theorem recover_ok {b : List UInt8} {l : List Rec} (h : l.all Rec.ok = true) : recover b l = (takeAll b l, 0) := by simp [recover, h]
/-- the log of UndoTorn between two steps -/
def TornI (b : List UInt8) (rs : List Rec) (img : List UInt8) : Prop := rs.all Rec.ok = true ∧ takeAll img rs = b
theorem TornI.snoc {b img t : List UInt8} {rs : List Rec} {r : Rec} (h : TornI b rs img) (hu : Undoes r t img) : TornI b (rs ++ [r]) t := ⟨by simp [h.1, hu.1], by rw [takeAll_snoc, hu.2]; exact h.2⟩
theorem TornI.recover {b t : List UInt8} {rs : List Rec} (h : TornI b rs t) : recover t rs = (b, 0) ∧ recover b rs = (b, 0) := by
  refine ⟨by rw [recover_ok h.1, h.2], ?_⟩
  rw [recover_ok h.1, ← h.2, takeAll_idem h.1]
theorem TornI.ok {b img : List UInt8} {rs : List (Rec × Value)} (h : TornI b (rs.map (·.1)) img) : ∀ p ∈ rs, p.1.ok = true := fun p hp => List.all_eq_true.1 h.1 _ (List.mem_map.2 ⟨p, hp, rfl⟩)
end Go.Un
namespace Go.Proofs.Yteefimjgcabpoaa
open Go.RowKit Go.Bs Go.Cl Go.Rw Go.Un
set_option maxRecDepth 100000 in
set_option maxHeartbeats 4000000 in
theorem undoTorn_any (bv sv mv : Value) (b : List UInt8) (ss : List (Stp × Value)) (mask : List Bool) (w : World) (hB : Bytes [] w bv b) (hS : StepL [] w sv ss) (hf : ∀ q ∈ ss, q.1.fits) (hM : Raw [] 1 w mv mask.length (mask.map Value.bool)) :
    Calls Try.prog 4 #[bv, sv, mv] w fun e w' => e = .returned (.bool true) ∧ Below w.heap.size w w' := by
  obtain ⟨sa, sc, rfl⟩ := Raw.slice hS.1
  obtain ⟨ba, bc, rfl⟩ := Raw.slice hB
  obtain ⟨ma, mc, rfl⟩ := Raw.slice hM
  have hsl : ss.length ≤ 9223372036854775807 := by
    obtain ⟨_, _, _, _, e, h1, h2, _⟩ := hS.1
    cases e; unfold maxLen at h2; omega
  have HS := Lib.hid hS; clear hS
  have HB := Lib.hid hB; clear hB
  have HF := Lib.hid hf; clear hf
  have HM := Lib.hid hM; clear hM
  cases hfew : fewS b (ss.map (·.1))
  · have Hfew := Lib.hid hfew; clear hfew
    go_enter Try.func4, Try.ntmps4
    go_wp2_with fail
    refine (awake_any _).mono ?_
    rintro e w1 ⟨rfl, hb1⟩
    go_wp2_with fail
    refine (fews_any _ _ b ss _ hsl ⟨_, _, rfl⟩ (HS.out.below hb1)).mono ?_
    rw [Hfew.out]
    rintro e w' ⟨rfl, rfl⟩
    go_wp2
    go_ret
    exact ⟨rfl, hb1⟩
  obtain ⟨hbl, hsn, hgood⟩ := fewS_at hfew
  have Hgood := Lib.hid hgood
  have Hfew := Lib.hid hfew
  clear hgood hfew
  by_cases hml : 300 < mask.length
  · have hml' : (300 : Int) < mask.length := by omega
    go_enter Try.func4, Try.ntmps4
    go_wp2_with fail
    refine (awake_any _).mono ?_
    rintro e w1 ⟨rfl, hb1⟩
    go_wp2_with fail
    refine (fews_any _ _ b ss _ hsl ⟨_, _, rfl⟩ (HS.out.below hb1)).mono ?_
    rw [Hfew.out]
    rintro e w' ⟨rfl, rfl⟩
    go_wp2
    go_ret
    exact ⟨rfl, hb1⟩
  have hml' : (mask.length : Int) ≤ 300 := by omega
  go_enter Try.func4, Try.ntmps4
  go_wp2_with fail
  refine (awake_any _).mono ?_
  rintro e w1 ⟨rfl, hb1⟩
  have hs1 := hb1.size
  go_wp2_with fail
  refine (fews_any _ _ b ss _ hsl ⟨_, _, rfl⟩ (HS.out.below hb1)).mono ?_
  rw [Hfew.out]
  rintro e w' ⟨rfl, rfl⟩
  go_wp2_with fail
  refine (new_any _ b _ (by omega) (Raw.below HB.out hb1)).mono ?_
  rintro e w2 ⟨g, iv, rfl, hL, hb2⟩
  obtain ⟨N, hN⟩ : ∃ N, N = w1.heap.size := ⟨_, rfl⟩
  rw [← hN] at hL hs1
  have hbel2 := hb1.trans (hb2.mono (by omega))
  have HL := Lib.hid hL; clear hL hb2 hb1 hN
  go_wp2_with fail
  refine (begin_any _ HL.out).mono ?_
  rintro e w3 ⟨rfl, hL3, hk3⟩
  have hbel3 := hbel2.trans (hk3.below (B := w.heap.size) hbel2.size (fun f hf => by rw [List.mem_singleton.1 hf]; exact Nat.le_trans hs1 HL.out.hg))
  have HL3 := Lib.hid hL3; clear hL3 hk3 HL
  go_wp2
  go_loopw [9] (fun i wr => ∃ (k : Nat) (iv rv : Value) (img : List UInt8) (rs : List (Rec × Value)), k ≤ ss.length ∧ i = .int .i64 k ∧ LogAt wr N g iv rv img rs true ∧ TornI b (rs.map (·.1)) img ∧ img.length ≤ 2000 ∧ rs.length ≤ k ∧ Below w.heap.size w wr) (fun i _ => ss.length - (intOf i).toNat)
  case atStart => exact ⟨0, _, _, _, _, Nat.zero_le _, rfl, HL3.out, ⟨rfl, rfl⟩, by omega, Nat.le_refl _, hbel3⟩
  case round =>
    clear HL3 hbel3 hbel2
    obtain ⟨wo, hwo⟩ : ∃ wo, wo = wr := ⟨_, rfl⟩
    subst hwo
    obtain ⟨k, iv, rv, img, rs, hk, rfl, hL, hT, hil, hrl, hbel⟩ := hrel
    have hsz := hbel.size
    have hNw : N ≤ wo.heap.size := by have := hL.lt; have := hL.hg; omega
    have HL := Lib.hid hL; clear hL
    have HT := Lib.hid hT; clear hT
    by_cases hlt : k < ss.length
    · obtain ⟨b0, off, rfl, hb0, s0, s1, s2, hm, qa, qc, hqq⟩ := (HS.out.below hbel).elem hlt
      have hgd := Hgood.out _ hm
      obtain ⟨hf1, hf2, hf3, hf4⟩ := HF.out _ hm
      have hd := stp_at HS.out hlt
      obtain ⟨sq, hsq⟩ : ∃ sq, sq = stpAt ss k := ⟨_, rfl⟩
      rw [← hsq] at s0 s1 s2 hqq hgd hf1 hf2 hf3 hf4 hd
      clear hsq hm
      obtain ⟨⟨so, sn, sb⟩, sv⟩ := sq
      simp only at s0 s1 s2 hqq hgd hf1 hf2 hf3 hf4 hd
      subst hqq
      have hbA := (Below.refl wo.heap.size wo).alloc (Nat.le_refl _) (.cells #[.int .i64 so, .int .i64 sn, .slice qa sb.length qc] 41)
      have hLA := HL.out.below hbA
      have hbelA := hbel.trans (hbA.mono hsz)
      have Hgd := Lib.hid hgd; clear hgd
      have hdl : sb.length ≤ 300 := by have := goodS_d Hgd.out; simpa using this
      by_cases hop : so = 1 ∨ so = 2
      · have HLA := Lib.hid hLA
        have Hd := Lib.hid hd
        have hdo : ∀ w4 : World, LogAt w4 N g iv rv img rs true → Below w.heap.size w w4 → N ≤ w4.heap.size → Calls Try.prog 18 #[.pointer (some ⟨g, 0, none⟩), .agg #[.int .i64 so, .int .i64 sn, .slice qa sb.length qc]] w4 (DoP w4 N g iv rv rs (stp ⟨img, rs.map (·.1), true⟩ so sn sb)) := fun w4 h4 hb4 hn4 =>
          do_any so sn _ sb _ h4 (by omega) (by omega) hn4 (TornI.ok HT.out) (Raw.keep Hd.out (Keep.of_below (F := []) hb4 (fun k hk _ => hk)) (fun f hf => by cases hf) (fun f hf => .inr (Nat.le_trans hs1 (h4.fbase f hf).1))) (by omega) hf3 hf4
        clear hLA hd
        rcases hop with rfl | rfl
        · rcases stp_torn (rs := rs.map (·.1)) (n := sn) (d := sb) hil with ⟨er, he1, he2, hst⟩ | ⟨m, img', r, rfl, hmd, hst, hl', hout, hun⟩
          · rw [hst] at hdo
            have Hdo := Lib.hid hdo; clear hdo hst
            go_wp2_with fail
            refine (image_any _ HLA.out (by omega)).mono ?_
            rintro e w4 ⟨v4, rfl, hown4, hb4⟩
            have hbel4 := hbelA.trans (hb4.mono hbelA.size)
            have HL4 := Lib.hid (HLA.out.below hb4)
            have h40 : w4.cell? ⟨wo.heap.size, 0, none⟩ = some (.int .i64 1) := by rw [hb4.cell (p := ⟨wo.heap.size, 0, none⟩) (by simp)]; go_simp
            have h41 : w4.cell? ⟨wo.heap.size, 1, none⟩ = some (.int .i64 sn) := by rw [hb4.cell (p := ⟨wo.heap.size, 1, none⟩) (by simp)]; go_simp
            have h42 : w4.cell? ⟨wo.heap.size, 2, none⟩ = some (.slice qa sb.length qc) := by rw [hb4.cell (p := ⟨wo.heap.size, 2, none⟩) (by simp)]; go_simp
            have hn4 : N ≤ w4.heap.size := by have := hb4.size; simp at this; omega
            obtain ⟨a4, c4, rfl⟩ := own_slice hown4
            clear hown4 hb4
            go_wp2_with fail
            refine (Hdo.out _ HL4.out hbel4 hn4).mono ?_
            rintro e w5 ⟨rfl, iv5, rv5, ts, hts, hL5, hk5, hF5, _⟩
            simp only at hL5
            have hbel5 := LogAt.steps HL4.out hk5 hs1 hn4 hbel4
            have HL5 := Lib.hid hL5
            have Hts := Lib.hid hts
            clear hL5 hts hk5 hF5
            simp only
            go_wp2
            go_roundw
            case rel => exact ⟨k + 1, _, _, _, _, hlt, by go_num, HL5.out, by rw [Hts.out]; exact HT.out, hil, by have := congrArg List.length Hts.out; simp at this; omega, hbel5⟩
            case measure => simp [intOf]; omega
          · rw [hst] at hdo
            have Hdo := Lib.hid hdo; clear hdo hst
            have Hun := Lib.hid hun; clear hun
            have Hout := Lib.hid hout; clear hout
            have Hl' := Lib.hid hl'; clear hl'
            go_wp2_with fail
            refine (image_any _ HLA.out (by omega)).mono ?_
            rintro e w4 ⟨v4, rfl, hown4, hb4⟩
            have hbel4 := hbelA.trans (hb4.mono hbelA.size)
            have HL4 := Lib.hid (HLA.out.below hb4)
            have h40 : w4.cell? ⟨wo.heap.size, 0, none⟩ = some (.int .i64 1) := by rw [hb4.cell (p := ⟨wo.heap.size, 0, none⟩) (by simp)]; go_simp
            have h41 : w4.cell? ⟨wo.heap.size, 1, none⟩ = some (.int .i64 m) := by rw [hb4.cell (p := ⟨wo.heap.size, 1, none⟩) (by simp)]; go_simp
            have h42 : w4.cell? ⟨wo.heap.size, 2, none⟩ = some (.slice qa sb.length qc) := by rw [hb4.cell (p := ⟨wo.heap.size, 2, none⟩) (by simp)]; go_simp
            have hn4 : N ≤ w4.heap.size := by have := hb4.size; simp at this; omega
            obtain ⟨a4, c4, rfl⟩ := own_slice hown4
            have hB4 : Bytes (LogF g iv rv) w4 (.slice a4 img.length c4) img := Bytes.row hown4 rfl (fun f hf => (HLA.out.fbase f hf).2)
            have hq4 : wo.heap.size < w4.heap.size := by have := hb4.size; simp at this; omega
            have HB4 := Lib.hid hB4
            clear hown4 hb4 hB4
            go_wp2_with fail
            refine (Hdo.out _ HL4.out hbel4 hn4).mono ?_
            rintro e w5 ⟨rfl, iv5, rv5, ts, hts, hL5, hk5, hF5, _⟩
            simp only at hL5 hts
            have hbel5 := LogAt.steps HL4.out hk5 hs1 hn4 hbel4
            have hqF : wo.heap.size ∉ LogF g iv rv := fun hm => by have := (HL.out.fbase _ hm).2; omega
            have h50 : w5.cell? ⟨wo.heap.size, 0, none⟩ = some (.int .i64 1) := (hk5.cell hq4 hqF).trans h40
            have h51 : w5.cell? ⟨wo.heap.size, 1, none⟩ = some (.int .i64 m) := (hk5.cell hq4 hqF).trans h41
            have h52 : w5.cell? ⟨wo.heap.size, 2, none⟩ = some (.slice qa sb.length qc) := (hk5.cell hq4 hqF).trans h42
            have HB5 := Lib.hid (Raw.to_nil (Raw.keep HB4.out hk5 (fun f hf => .inl hf) hF5))
            have hq5 : wo.heap.size < w5.heap.size := Nat.lt_of_lt_of_le hq4 hk5.size
            have HL5 := Lib.hid hL5
            have Hts := Lib.hid hts
            clear hL5 hts hk5 hF5 h40 h41 h42 HB4 HL4 hqF
            simp only
            go_wp2_with fail
            refine (image_any _ HL5.out (by rw [Hl'.out]; omega)).mono ?_
            rintro e w6 ⟨v6, rfl, hown6, hb6⟩
            have hbel6 := hbel5.trans (hb6.mono hbel5.size)
            have HL6 := Lib.hid (HL5.out.below hb6)
            have h60 : w6.cell? ⟨wo.heap.size, 0, none⟩ = some (.int .i64 1) := (hb6.cell (p := ⟨wo.heap.size, 0, none⟩) hq5).trans h50
            have h61 : w6.cell? ⟨wo.heap.size, 1, none⟩ = some (.int .i64 m) := (hb6.cell (p := ⟨wo.heap.size, 1, none⟩) hq5).trans h51
            have h62 : w6.cell? ⟨wo.heap.size, 2, none⟩ = some (.slice qa sb.length qc) := (hb6.cell (p := ⟨wo.heap.size, 2, none⟩) hq5).trans h52
            have hq6 : wo.heap.size < w6.heap.size := Nat.lt_of_lt_of_le hq5 hb6.size
            have hTF : ∀ f ∈ v6.ownBlock.toList, w5.heap.size ≤ f := fun f hf => (hown6.lt f (by simpa using hf)).1
            obtain ⟨ta, tc, rfl⟩ := own_slice hown6
            have holds6 : ∀ p ∈ ts, Bytes (Value.ownBlock (.slice ta img'.length tc)).toList w6 p.2 p.1.old := fun p hp => Raw.keep (Raw.to_nil (HL5.out.hb p hp)) (Keep.of_below' (F := []) hb6) (fun f hf => by cases hf) (fun f hf => .inr (hTF f hf))
            have hB6 : Bytes (Value.ownBlock (.slice ta img'.length tc)).toList w6 (.slice a4 img.length c4) img := Raw.keep HB5.out (Keep.of_below' (F := []) hb6) (fun f hf => by cases hf) (fun f hf => .inr (hTF f hf))
            have hTL : ∀ f ∈ LogF g iv5 rv5, f ∉ (Value.ownBlock (.slice ta img'.length tc)).toList := fun f hf hm => by have := hTF f hm; have := (HL5.out.fbase f hf).2; omega
            have hTq : wo.heap.size ∉ (Value.ownBlock (.slice ta img'.length tc)).toList := fun hm => by have := hTF _ hm; omega
            have hTb : ∀ f ∈ (Value.ownBlock (.slice ta img'.length tc)).toList, w.heap.size ≤ f := fun f hf => Nat.le_trans hbel5.size (hTF f hf)
            have hM6 : Raw (Value.ownBlock (.slice ta img'.length tc)).toList 1 w6 (.slice ma mask.length mc) mask.length (mask.map Value.bool) := Raw.keep HM.out (Keep.of_below (F := []) hbel6 (fun k hk _ => hk)) (fun f hf => by cases hf) (fun f hf => .inr (hTb f hf))
            obtain ⟨T, hTdef⟩ : ∃ T, T = (Value.ownBlock (.slice ta img'.length tc)).toList := ⟨_, rfl⟩
            rw [← hTdef] at holds6 hB6 hTL hTq hTb hM6
            have Holds6 := Lib.hid holds6; have HB6 := Lib.hid hB6; have HTL := Lib.hid hTL; have HTq := Lib.hid hTq; have HTb := Lib.hid hTb; have HM6 := Lib.hid hM6
            have HTdef := Lib.hid hTdef
            have Hown6 := Lib.hid (own_base hown6 (Nat.zero_le _))
            clear holds6 hB6 hTL hTq hTb hM6 hTdef hown6 hTF hb6 h50 h51 h52 HB5 HL5
            go_wp2
            go_loopw [13] (fun i wr => ∃ (j : Nat) (t : List UInt8), i = .int .i64 j ∧ j ≤ sb.length ∧ t.length = img'.length ∧ (∀ p, (p < m ∨ m + sb.length ≤ p) → t[p]? = img[p]?) ∧ wr.ownsRow 0 5 1 (.slice ta img'.length tc) img'.length (bytesV t) ∧ Keep T w6 wr) (fun i _ => sb.length - (intOf i).toNat)
            case atStart => exact ⟨0, img', rfl, Nat.zero_le _, rfl, Hout.out, Hown6.out, Keep.refl _ _⟩
            case round =>
              obtain ⟨j, t, rfl, hj, htl, hto, hown, hkT⟩ := hrel
              have h0 : wr.cell? ⟨wo.heap.size, 0, none⟩ = some (.int .i64 1) := (hkT.cell hq6 HTq.out).trans h60
              have h1 : wr.cell? ⟨wo.heap.size, 1, none⟩ = some (.int .i64 m) := (hkT.cell hq6 HTq.out).trans h61
              have h2 : wr.cell? ⟨wo.heap.size, 2, none⟩ = some (.slice qa sb.length qc) := (hkT.cell hq6 HTq.out).trans h62
              have Hto := Lib.hid hto; clear hto
              have Htl := Lib.hid htl; clear htl
              have Hown := Lib.hid hown; clear hown
              have HkT := Lib.hid hkT; clear hkT
              by_cases hc : j < sb.length ∧ j < mask.length
              · obtain ⟨hc1, hc2⟩ := hc
                have hc1' : (j : Int) < sb.length := by omega
                have hc2' : (j : Int) < mask.length := by omega
                have hMw := Raw.keep (F' := T) HM6.out HkT.out (fun f hf => .inl hf) (fun f hf => .inl hf)
                rcases hMw.cases with ⟨h0', _⟩ | ⟨_, mb, mo, mc', hme, _, _, _, _, hmcell⟩
                · omega
                have hmj := hmcell j (.bool mask[j]) (by simp [hc2])
                cases hme
                obtain ⟨bit, hbit⟩ : ∃ bit, mask[j] = bit := ⟨_, rfl⟩
                rw [hbit] at hmj
                clear hmcell hMw hbit
                have hj24 : m + j < img.length := by omega
                cases bit
                · go_wp2
                  go_roundw
                  case rel => exact ⟨j + 1, t, by go_num, hc1, Htl.out, Hto.out, Hown.out, HkT.out⟩
                  case measure => simp [intOf]; omega
                · have hBw := Raw.keep (F' := T) HB6.out HkT.out (fun f hf => .inl hf) (fun f hf => .inl hf)
                  rcases Raw.cases hBw with ⟨h0', _⟩ | ⟨_, bb, bo, bc', hbe, _, _, _, _, hbcell⟩
                  · omega
                  have hbj := hbcell (m + j) _ (bytesV_get hj24)
                  cases hbe
                  have hl1 := Hl'.out
                  rcases own_cases Hown.out with ⟨_, h0', _⟩ | ⟨gt, tcap, hte, _, hgt, hgc⟩
                  · omega
                  cases hte
                  have hfz := own_frozen Hown.out (m + j)
                  obtain ⟨y, htc⟩ : ∃ y : UInt8, wr.cell? ⟨gt, m + j, none⟩ = some (byteV y) := ⟨_, own_cell Hown.out rfl (bytesV_get (l := t) (i := m + j) (by rw [Htl.out]; omega))⟩
                  obtain ⟨x, hx⟩ : ∃ x, img[m + j] = x := ⟨_, rfl⟩
                  rw [hx] at hbj
                  obtain ⟨u, hu⟩ : ∃ u, u = byteV x := ⟨_, rfl⟩
                  have hset := own_set Hown.out (j := m + j) (u := byteV x) (by rw [bytesV_len, Htl.out]; omega)
                  rw [bytesV_set] at hset
                  have hkS := HkT.out.setCell (p := ⟨gt, m + j, none⟩) (.inl (by rw [HTdef.out]; simp [Value.ownBlock])) (byteV x)
                  have hout2 : ∀ p, (p < m ∨ m + sb.length ≤ p) → (t.set (m + j) x)[p]? = img[p]? := fun p hp => by
                    rw [List.getElem?_set_ne (by omega)]; exact Hto.out p hp
                  have Hset := Lib.hid hset; have HkS := Lib.hid hkS; have Hout2 := Lib.hid hout2
                  have hmj1 : ((m + j : Nat) : Int) = (m : Int) + j := by omega
                  have hb1 : (m : Int) + j < img.length := by omega
                  have hb2 : (m : Int) + j < img'.length := by omega
                  clear hset hkS hout2 hbcell hBw hl1 hx hu
                  unfold byteV at hbj htc Hset HkS
                  go_wp2
                  refine Txt.wp_txt (by kernel_rfl) (by kernel_rfl) ?_
                  go_wp2
                  refine Txt.DrawPost.mk0 (by rfl) ?_
                  go_wp2
                  go_roundw
                  case rel => exact ⟨j + 1, t.set (m + j) x, by go_num, hc1, by rw [List.length_set]; exact Htl.out, Hout2.out, Hset.out, HkS.out.drew⟩
                  case measure => simp [intOf]; omega
              · have hLw := HL6.out.apart HkT.out HTL.out Holds6.out
                have hbelw := hbel6.trans (HkT.out.below (B := w.heap.size) hbel6.size HTb.out)
                have hTt := HT.out.snoc (Hun.out t (Htl.out.trans Hl'.out) Hto.out)
                have hTi := HT.out.snoc (Hun.out img' Hl'.out Hout.out)
                rw [← Hts.out] at hTt hTi
                have hrec := hTt.recover
                have htlen : t.length ≤ 1000000 := by rw [Htl.out, Hl'.out]; omega
                have htsl : ts.length = rs.length + 1 := by have := congrArg List.length Hts.out; simpa using this
                have hokt : ∀ p ∈ ts, p.1.ok = true := hTt.ok
                have HLw := Lib.hid hLw; have HTi := Lib.hid hTi; have Hrec := Lib.hid hrec; have Hokt := Lib.hid hokt
                have HBt := Lib.hid (Bytes.row (F := []) Hown.out Htl.out.symm (fun f hf => by cases hf))
                have Htsl := Lib.hid htsl
                clear hLw hTt hTi hrec hokt htsl h0 h1
                have hrecs : ∀ w8 : World, LogAt w8 N g iv5 rv5 img' ts true → Calls Try.prog 19 #[.pointer (some ⟨g, 0, none⟩)] w8 fun e w' => ∃ v rs9, e = .returned v ∧ rs9.map (·.1) = ts.map (·.1) ∧ rs9.length = ts.length ∧ Recs [] w' v rs9 ∧ (∀ p ∈ rs9, p.1.fits) ∧ Below w8.heap.size w8 w' := fun w8 h8 => by
                  refine (records_any _ h8 (by rw [Htsl.out]; omega) (fun p hp => by have := ok_old (Hokt.out p hp); omega)).mono ?_
                  rintro e w9 ⟨v9, rfl, hR9, hb9⟩
                  obtain ⟨rs9, hrs9, hR9⟩ := hR9.recs
                  refine ⟨v9, rs9, rfl, hrs9, by have := congrArg List.length hrs9; simpa using this, hR9, fun p hp => ?_, hb9⟩
                  have : p.1 ∈ ts.map (·.1) := by rw [← hrs9]; exact List.mem_map.2 ⟨p, hp, rfl⟩
                  obtain ⟨p', hp', he⟩ := List.mem_map.1 this
                  rw [← he]; exact ok_fits (Hokt.out _ hp')
                have Hrecs := Lib.hid hrecs; clear hrecs
                have hc3 : ¬ (j : Int) < sb.length ∨ ((j : Int) < sb.length ∧ ¬ (j : Int) < mask.length) := by omega
                rcases hc3 with hc3 | ⟨hc3, hc4⟩
                all_goals
                  go_wp2_with fail
                  refine (Hrecs.out _ HLw.out).mono ?_
                  rintro e w9 ⟨v9, rs9, rfl, hrs9, hl9, hR9, hf9, hb9⟩
                  have hbel9 := hbelw.trans (hb9.mono hbelw.size)
                  have HL9 := Lib.hid (HLw.out.below hb9)
                  obtain ⟨a9, c9, rfl⟩ := Raw.slice hR9.1
                  have HR9 := Lib.hid hR9; have Hf9 := Lib.hid hf9; have Hrs9 := Lib.hid hrs9; have Hl9 := Lib.hid hl9
                  have HBt9 := Lib.hid (Raw.below HBt.out hb9)
                  clear hR9 hf9 hrs9 hl9 hb9
                  go_wp2_with fail
                  refine (recover_any _ _ t rs9 _ htlen (by rw [Hl9.out, Htsl.out]; omega) HBt9.out HR9.out Hf9.out).mono ?_
                  rw [Hrs9.out, Hrec.out.1]
                  rintro e w10 ⟨v10, rfl, hB10, hb10⟩
                  have hbel10 := hbel9.trans (hb10.mono hbel9.size)
                  have HL10 := Lib.hid (HL9.out.below hb10)
                  obtain ⟨a10, c10, rfl⟩ := Raw.slice hB10
                  have HB10 := Lib.hid hB10
                  clear hB10 hb10
                  go_wp2_with fail
                  refine (Hrecs.out _ HL10.out).mono ?_
                  rintro e w11 ⟨v11, rs11, rfl, hrs11, hl11, hR11, hf11, hb11⟩
                  have hbel11 := hbel10.trans (hb11.mono hbel10.size)
                  have HL11 := Lib.hid (HL10.out.below hb11)
                  obtain ⟨a11, c11, rfl⟩ := Raw.slice hR11.1
                  have HR11 := Lib.hid hR11; have Hf11 := Lib.hid hf11; have Hrs11 := Lib.hid hrs11; have Hl11 := Lib.hid hl11
                  have HB11 := Lib.hid (Raw.below HB10.out hb11)
                  clear hR11 hf11 hrs11 hl11 hb11
                  go_wp2_with fail
                  refine (recover_any _ _ b rs11 _ (by omega) (by rw [Hl11.out, Htsl.out]; omega) HB11.out HR11.out Hf11.out).mono ?_
                  rw [Hrs11.out, Hrec.out.2]
                  rintro e w12 ⟨v12, rfl, hB12, hb12⟩
                  have hbel12 := hbel11.trans (hb12.mono hbel11.size)
                  have HL12 := Lib.hid (HL11.out.below hb12)
                  obtain ⟨a12, c12, rfl⟩ := Raw.slice hB12
                  have k1 := run_str (Raw.below HB11.out hb12) 22 5 9 Try.underlying22 Try.underlying5 Try.underlying9
                  have k2 := run_str hB12 22 5 9 Try.underlying22 Try.underlying5 Try.underlying9
                  have k3 := run_str (Raw.below HB.out hbel12) 22 5 9 Try.underlying22 Try.underlying5 Try.underlying9
                  clear hB12 hb12
                  go_wp2
                  go_roundw
                  case rel => exact ⟨k + 1, _, _, _, _, hlt, by go_num, HL12.out, HTi.out, by rw [Hl'.out]; exact hil, by rw [Htsl.out]; omega, hbel12⟩
                  case measure => simp [intOf]; omega
        · rcases stp_wr (rs := rs.map (·.1)) (.inr rfl) Hgd.out hil with ⟨er, he1, he2, hst⟩ | ⟨img', r, hst, hun, hil'⟩
          · rw [hst] at hdo
            have Hdo := Lib.hid hdo; clear hdo hst
            go_wp2_with fail
            refine (image_any _ HLA.out (by omega)).mono ?_
            rintro e w4 ⟨v4, rfl, hown4, hb4⟩
            have hbel4 := hbelA.trans (hb4.mono hbelA.size)
            have HL4 := Lib.hid (HLA.out.below hb4)
            have h40 : w4.cell? ⟨wo.heap.size, 0, none⟩ = some (.int .i64 2) := by rw [hb4.cell (p := ⟨wo.heap.size, 0, none⟩) (by simp)]; go_simp
            have h41 : w4.cell? ⟨wo.heap.size, 1, none⟩ = some (.int .i64 sn) := by rw [hb4.cell (p := ⟨wo.heap.size, 1, none⟩) (by simp)]; go_simp
            have h42 : w4.cell? ⟨wo.heap.size, 2, none⟩ = some (.slice qa sb.length qc) := by rw [hb4.cell (p := ⟨wo.heap.size, 2, none⟩) (by simp)]; go_simp
            have hn4 : N ≤ w4.heap.size := by have := hb4.size; simp at this; omega
            obtain ⟨a4, c4, rfl⟩ := own_slice hown4
            clear hown4 hb4
            go_wp2_with fail
            refine (Hdo.out _ HL4.out hbel4 hn4).mono ?_
            rintro e w5 ⟨rfl, iv5, rv5, ts, hts, hL5, hk5, hF5, _⟩
            simp only at hL5 hts
            have hbel5 := LogAt.steps HL4.out hk5 hs1 hn4 hbel4
            have HL5 := Lib.hid hL5
            have Hts := Lib.hid hts
            clear hL5 hts hk5 hF5
            simp only
            go_wp2
            go_roundw
            case rel => exact ⟨k + 1, _, _, _, _, hlt, by go_num, HL5.out, by rw [Hts.out]; exact HT.out, hil, by have := congrArg List.length Hts.out; simp at this; omega, hbel5⟩
            case measure => simp [intOf]; omega
          · rw [hst] at hdo
            have Hdo := Lib.hid hdo; clear hdo hst
            have Hun := Lib.hid hun; clear hun
            go_wp2_with fail
            refine (image_any _ HLA.out (by omega)).mono ?_
            rintro e w4 ⟨v4, rfl, hown4, hb4⟩
            have hbel4 := hbelA.trans (hb4.mono hbelA.size)
            have HL4 := Lib.hid (HLA.out.below hb4)
            have h40 : w4.cell? ⟨wo.heap.size, 0, none⟩ = some (.int .i64 2) := by rw [hb4.cell (p := ⟨wo.heap.size, 0, none⟩) (by simp)]; go_simp
            have h41 : w4.cell? ⟨wo.heap.size, 1, none⟩ = some (.int .i64 sn) := by rw [hb4.cell (p := ⟨wo.heap.size, 1, none⟩) (by simp)]; go_simp
            have h42 : w4.cell? ⟨wo.heap.size, 2, none⟩ = some (.slice qa sb.length qc) := by rw [hb4.cell (p := ⟨wo.heap.size, 2, none⟩) (by simp)]; go_simp
            have hn4 : N ≤ w4.heap.size := by have := hb4.size; simp at this; omega
            obtain ⟨a4, c4, rfl⟩ := own_slice hown4
            have hq4 : wo.heap.size < w4.heap.size := by have := hb4.size; simp at this; omega
            clear hown4 hb4
            go_wp2_with fail
            refine (Hdo.out _ HL4.out hbel4 hn4).mono ?_
            rintro e w5 ⟨rfl, iv5, rv5, ts, hts, hL5, hk5, hF5, _⟩
            simp only at hL5 hts
            have hqF : wo.heap.size ∉ LogF g iv rv := fun hm => by have := (HL.out.fbase _ hm).2; omega
            have h50 : w5.cell? ⟨wo.heap.size, 0, none⟩ = some (.int .i64 2) := (hk5.cell hq4 hqF).trans h40
            have hbel5 := LogAt.steps HL4.out hk5 hs1 hn4 hbel4
            have HL5 := Lib.hid hL5
            have Hts := Lib.hid hts
            clear hL5 hts hk5 hF5
            simp only
            go_wp2
            go_roundw
            case rel => exact ⟨k + 1, _, _, _, _, hlt, by go_num, HL5.out, by rw [Hts.out]; exact HT.out.snoc Hun.out, hil', by have := congrArg List.length Hts.out; simp at this; omega, hbel5⟩
            case measure => simp [intOf]; omega
      · have n1 : (so == 1) = false := by simpa using fun e => hop (.inl e)
        have n2 : (so == 2) = false := by simpa using fun e => hop (.inr e)
        have n3 : (so != 1) = true := by simpa using fun e => hop (.inl e)
        have n4 : (so != 2) = true := by simpa using fun e => hop (.inr e)
        have HLA := Lib.hid hLA
        clear hLA hop hd
        go_wp2
        go_roundw
        case rel => exact ⟨k + 1, _, _, _, _, hlt, by go_num, HLA.out, HT.out, hil, by omega, hbelA⟩
        case measure => simp [intOf]; omega
    · obtain rfl : k = ss.length := by omega
      go_wp2
      go_ret
      exact ⟨rfl, hbel⟩
end Go.Proofs.Yteefimjgcabpoaa
