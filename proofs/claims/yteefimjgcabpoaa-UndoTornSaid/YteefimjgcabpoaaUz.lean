/- Undo: the walk of UndoRollback -/
import Derived.Test.YteefimjgcabpoaaUy
namespace Go.Proofs.Yteefimjgcabpoaa
open Go.RowKit Go.Bs Go.Cl Go.Rw Go.Un
theorem chain_ok {img : List UInt8} {rs : List (Rec × Value)} {past : List (List UInt8)} (h : Chain img (rs.map (·.1)) past) : ∀ p ∈ rs, p.1.ok = true := fun p hp => List.all_eq_true.1 h.2.1 _ (List.mem_map.2 ⟨p, hp, rfl⟩)
theorem ok_old {r : Rec} (h : r.ok = true) : r.old.length ≤ 24000 := by have := Rec.ok_iff.1 h; omega
theorem stp_at {w : World} {F : List Nat} {v : Value} {ss : List (Stp × Value)} (h : StepL F w v ss) {i : Nat} (hi : i < ss.length) : Bytes F w (stpAt ss i).2 (stpAt ss i).1.d := h.2 _ (List.mem_of_getElem? (stpAt_get hi))
set_option maxRecDepth 100000 in
set_option maxHeartbeats 4000000 in
theorem undoRollback_any (bv sv : Value) (b : List UInt8) (ss : List (Stp × Value)) (at_ : Nat) (w : World) (hat : at_ < 256) (hB : Bytes [] w bv b) (hS : StepL [] w sv ss) (hf : ∀ q ∈ ss, q.1.fits) :
    Calls Try.prog 6 #[bv, sv, .int .u8 at_] w fun e w' => e = .returned (.bool true) ∧ Below w.heap.size w w' := by
  obtain ⟨sa, sc, rfl⟩ := Raw.slice hS.1
  obtain ⟨ba, bc, rfl⟩ := Raw.slice hB
  have hsl : ss.length ≤ 9223372036854775807 := by
    obtain ⟨_, _, _, _, e, h1, h2, _⟩ := hS.1
    cases e; unfold maxLen at h2; omega
  have HS := Lib.hid hS; clear hS
  have HB := Lib.hid hB; clear hB
  have HF := Lib.hid hf; clear hf
  cases hfew : fewS b (ss.map (·.1))
  · have Hfew := Lib.hid hfew; clear hfew
    go_enter Try.func6, Try.ntmps6
    go_wp2_with fail
    refine (awake_any _).mono ?_
    rintro e w1 ⟨rfl, hb1⟩
    go_wp2_with fail
    refine (fews_any _ _ b ss _ hsl ⟨_, _, rfl⟩ (HS.out.below hb1)).mono ?_
    rw [Hfew.out]
    rintro e w' ⟨rfl, rfl⟩
    go_wp2
    go_ret
    exact ⟨rfl, hb1⟩
  obtain ⟨hbl, hsn, hgood⟩ := fewS_at hfew
  have Hgood := Lib.hid hgood
  have Hfew := Lib.hid hfew
  clear hgood hfew
  go_enter Try.func6, Try.ntmps6
  go_wp2_with fail
  refine (awake_any _).mono ?_
  rintro e w1 ⟨rfl, hb1⟩
  have hs1 := hb1.size
  go_wp2_with fail
  refine (fews_any _ _ b ss _ hsl ⟨_, _, rfl⟩ (HS.out.below hb1)).mono ?_
  rw [Hfew.out]
  rintro e w' ⟨rfl, rfl⟩
  go_wp2_with fail
  refine (new_any _ b _ (by omega) (Raw.below HB.out hb1)).mono ?_
  rintro e w2 ⟨g, iv, rfl, hL, hb2⟩
  obtain ⟨N, hN⟩ : ∃ N, N = w1.heap.size := ⟨_, rfl⟩
  rw [← hN] at hL hs1
  have hbel2 := hb1.trans (hb2.mono (by omega))
  have HL := Lib.hid hL; clear hL hb2 hb1 hN
  go_wp2_with fail
  refine (begin_any _ HL.out).mono ?_
  rintro e w3 ⟨rfl, hL3, hk3⟩
  have hbel3 := hbel2.trans (hk3.below (B := w.heap.size) hbel2.size (fun f hf => by rw [List.mem_singleton.1 hf]; exact Nat.le_trans hs1 HL.out.hg))
  have HL3 := Lib.hid hL3; clear hL3 hk3 HL
  go_wp2_with fail
  refine (image_any _ HL3.out (by omega)).mono ?_
  rintro e w4 ⟨v4, rfl, hown4, hb4⟩
  obtain ⟨a4, c4, rfl⟩ := own_slice hown4
  have hPI := PI.start (HL3.out.below hb4) (Bytes.row (F := LogF g iv (.slice none 0 0)) hown4 rfl (fun f hf => (HL3.out.fbase f hf).2)) (by have := HL3.out.lt; have := HL3.out.hg; have := hb4.size; omega)
  have hbel4 : Below w.heap.size w (w4.alloc (.cells #[.slice a4 b.length c4] 22)) := (hbel3.trans (hb4.mono hbel3.size)).alloc (by have := hbel3.size; have := hb4.size; omega) _
  have HPI := Lib.hid hPI; clear hPI hown4 hb4 HL3
  go_wp2
  go_loopw [9, 10] (fun pv i wr => ∃ (k : Nat) (iv rv : Value) (img : List UInt8) (rs : List (Rec × Value)) (pvs : List (List UInt8 × Value)) (past : List (List UInt8)), k ≤ ss.length ∧ i = .int .i64 k ∧ PI wr N g iv rv img rs pv pvs ∧ pvs.map (·.1) = past ++ [img] ∧ Chain img (rs.map (·.1)) past ∧ (past ++ [img])[0]? = some b ∧ img.length ≤ 2000 ∧ rs.length ≤ k ∧ Below w.heap.size w wr) (fun _ i _ => ss.length - (intOf i).toNat)
  case atStart => exact ⟨0, _, _, _, _, _, [], Nat.zero_le _, rfl, HPI.out, rfl, Chain.nil _, rfl, by omega, Nat.le_refl _, hbel4⟩
  case round =>
    clear HPI hbel4 hbel3 hbel2
    obtain ⟨k, iv, rv, img, rs, pvs, past, hk, rfl, hPI, hpvs, hch, h0, hil, hrl, hbel⟩ := hrel
    have hpl : pvs.length = rs.length + 1 := by
      have := congrArg List.length hpvs
      simp [hch.1] at this; exact this
    obtain ⟨q, qcap, rfl, hq, hqc⟩ := hPI.past.len (by omega)
    have Hpl := Lib.hid hpl; clear hpl
    have hsz := hbel.size
    have hNw : N ≤ wr.heap.size := by have := hPI.log.lt; have := hPI.log.hg; omega
    have HPI := Lib.hid hPI; clear hPI
    have Hpvs := Lib.hid hpvs; clear hpvs
    have Hch := Lib.hid hch; clear hch
    have H0 := Lib.hid h0; clear h0
    by_cases hlt : k < ss.length
    · obtain ⟨b0, off, rfl, hb0, s0, s1, s2, hm, qa, qc, hqq⟩ := (HS.out.below hbel).elem hlt
      have hgd := Hgood.out _ hm
      obtain ⟨hf1, hf2, hf3, hf4⟩ := HF.out _ hm
      have hd := stp_at HS.out hlt
      obtain ⟨sq, hsq⟩ : ∃ sq, sq = stpAt ss k := ⟨_, rfl⟩
      rw [← hsq] at s0 s1 s2 hqq hgd hf1 hf2 hf3 hf4 hd
      clear hsq hm
      obtain ⟨⟨so, sn, sb⟩, sv⟩ := sq
      simp only at s0 s1 s2 hqq hgd hf1 hf2 hf3 hf4 hd
      subst hqq
      have hbA := (Below.refl wr.heap.size wr).alloc (Nat.le_refl _) (.cells #[.int .i64 so, .int .i64 sn, .slice qa sb.length qc] 41)
      have hPIA := HPI.out.below hbA
      have hbelA := hbel.trans (hbA.mono hsz)
      have Hgd := Lib.hid hgd; clear hgd
      by_cases hop : so = 1 ∨ so = 2
      · have hdA : Bytes (LogF g iv rv) (wr.alloc (.cells #[.int .i64 so, .int .i64 sn, .slice qa sb.length qc] 41)) (.slice qa sb.length qc) sb := by
          exact Raw.keep hd (Keep.of_below (F := []) hbelA (fun k hk _ => hk)) (fun f hf => by cases hf) (fun f hf => .inr (Nat.le_trans hs1 (hPIA.log.fbase f hf).1))
        have st := do_any so sn _ sb _ hPIA.log (by omega) (by omega) (by simp; omega) (chain_ok Hch.out) hdA (by have := goodS_d Hgd.out; simp only at this; omega) hf3 hf4
        have HPIA := Lib.hid hPIA
        have Hd := Lib.hid hd
        rcases stp_wr (rs := rs.map (·.1)) hop Hgd.out hil with ⟨er, he1, he2, hst⟩ | ⟨img', r, hst, hun, hil'⟩
        · rw [hst] at st
          have St := Lib.hid st; clear st hst hdA hPIA hd
          have Hbel := Lib.hid hbelA
          rcases hop with rfl | rfl
          all_goals
            go_wp2_with fail
            refine St.out.mono ?_
            rintro e w5 ⟨rfl, hst⟩
            obtain ⟨iv5, rv5, ts, hts, hPI5, hk5⟩ := PI.step HPIA.out hst
            have hbel5 := LogAt.steps HPIA.out.log hk5 hs1 (by simp; omega) Hbel.out
            have Hts := Lib.hid hts
            have HPI5 := Lib.hid hPI5
            clear hPI5 hk5 hst hts
            simp only
            go_wp2
            go_roundw
            case rel => exact ⟨k + 1, _, _, _, _, _, past, hlt, by go_num, HPI5.out, Hpvs.out, by rw [Hts.out]; exact Hch.out, H0.out, hil, by have := congrArg List.length Hts.out; simp at this; omega, hbel5⟩
            case measure => simp [intOf]; omega
        · rw [hst] at st
          have St := Lib.hid st; clear st hst hdA hPIA hd
          have Hbel := Lib.hid hbelA
          have Hun := Lib.hid hun; clear hun
          have hch' := Chain.snoc Hch.out Hun.out
          have Hch' := Lib.hid hch'; clear hch'
          have h0' : ((past ++ [img]) ++ [img'])[0]? = some b := by rw [List.getElem?_append_left (by simp)]; exact H0.out
          have H0' := Lib.hid h0'; clear h0'
          rcases hop with rfl | rfl
          all_goals
            go_wp2_with fail
            refine St.out.mono ?_
            rintro e w5 ⟨rfl, hst⟩
            obtain ⟨iv5, rv5, ts, hts, hPI5, hk5⟩ := PI.step HPIA.out hst
            have hbel5 := LogAt.steps HPIA.out.log hk5 hs1 (by simp; omega) Hbel.out
            have Hts := Lib.hid hts
            have HPI5 := Lib.hid hPI5
            clear hPI5 hk5 hst hts
            simp only
            go_wp2_with fail
            refine (image_any _ HPI5.out.log (by omega)).mono ?_
            rintro e w6 ⟨v6, rfl, hown6, hb6⟩
            obtain ⟨a6, c6, rfl⟩ := own_slice hown6
            have hB6 : Bytes ([q] ++ LogF g iv5 rv5) w6 (.slice a6 img'.length c6) img' := Bytes.row hown6 rfl (fun f hf => by
              rcases List.mem_append.1 hf with hf | hf
              · rw [List.mem_singleton.1 hf]; exact (HPI5.out.past.row.lt q rfl).2
              · exact (HPI5.out.log.fbase f hf).2)
            have hal := (Below.refl w6.heap.size w6).alloc (Nat.le_refl _) (.cells #[.slice a6 img'.length c6] 22)
            have HPI6 := Lib.hid ((HPI5.out.below hb6).below hal)
            have HB6 := Lib.hid (Raw.below hB6 hal)
            have hbel6 := (hbel5.trans (hb6.mono hbel5.size)).trans (hal.mono (by have := hbel5.size; have := hb6.size; omega))
            have HX6 := Lib.hid (show Raw [] 1 (w6.alloc (.cells #[.slice a6 img'.length c6] 22)) (.slice (some ⟨w6.heap.size, 0, none⟩) 1 1) 1 [.slice a6 img'.length c6] from Raw.of_block (ys := [.slice a6 img'.length c6]) (heap_alloc_new w6 _) (by intro h; cases h) (by intro u hu; rw [List.mem_singleton.1 hu]; rfl) rfl (Nat.le_refl _) (by unfold maxLen; omega))
            clear hown6 hb6 hB6 hal HPI5
            go_wp2_with (at_builtin; refine wpList_appF el46 Try.underlying46 HPI6.out.past.row HX6.out hbel6 rfl _ _ rfl rfl rfl ?c3 ?cB ?c5 ?_)
            case c3 => have := Hpl.out; omega
            case cB => exact hs1
            case c5 => have := HPI6.out.log.lt; have := HPI6.out.log.hg; omega
            intro v7 w7 hown7 hbel7 hk7 hn7
            have HPI7 := Lib.hid (HPI6.out.push hown7 hk7 (by simpa using hn7) HB6.out)
            obtain ⟨a7, c7, rfl⟩ := own_slice hown7
            clear hown7 hk7 hn7
            go_wp2
            go_roundw
            case rel => exact ⟨k + 1, _, _, _, _, _, past ++ [img], hlt, by go_num, HPI7.out, by simp [Hpvs.out], by rw [Hts.out]; exact Hch'.out, H0'.out, hil', by have := congrArg List.length Hts.out; simp at this; omega, hbel7⟩
            case measure => simp [intOf]; omega
      · have n1 : (so == 1) = false := by simpa using fun e => hop (.inl e)
        have n2 : (so == 2) = false := by simpa using fun e => hop (.inr e)
        have HPIA := Lib.hid hPIA
        clear hPIA hop hd
        go_wp2
        go_roundw
        case rel => exact ⟨k + 1, _, _, _, _, _, past, hlt, by go_num, HPIA.out, Hpvs.out, Hch.out, H0.out, hil, by omega, hbelA⟩
        case measure => simp [intOf]; omega
    · obtain rfl : k = ss.length := by omega
      obtain ⟨kk, hkk⟩ : ∃ kk, kk = at_ % (rs.length + 1) := ⟨_, rfl⟩
      have hkl : kk ≤ rs.length := by have := Nat.mod_lt at_ (show 0 < rs.length + 1 by omega); omega
      have hrem : (at_ : Int) % ((rs.length : Int) + 1) = kk := by rw [hkk]; rfl
      have hat' : (at_ : Int) < 256 := by omega
      clear hkk
      obtain ⟨n1, hn1⟩ : ∃ n1, n1 = pvs.length := ⟨_, rfl⟩
      rw [← hn1] at HPI Hpl ⊢
      have hpl := Hpl.out
      have hn1' : (n1 : Int) = rs.length + 1 := by omega
      have hrem' : (at_ : Int) % (n1 : Int) = kk := by rw [hn1']; exact hrem
      have hne : ¬ (n1 : Int) = 0 := by omega
      have hn1s : (n1 : Int) - 1 = rs.length := by omega
      have hkn : (kk : Int) < n1 := by omega
      clear hpl hrem
      have Hn1 := Lib.hid hn1; clear hn1
      have Hn1' := Lib.hid hn1'; clear hn1'
      -- the image that the law compares with
      have hat := Hch.out.at (show kk ≤ (rs.map (·.1)).length by simpa using hkl)
      rw [← Hpvs.out, List.getElem?_map] at hat
      obtain ⟨pk, hpk, hpke⟩ : ∃ pk, pvs[kk]? = some pk ∧ pk.1 = takeAll img ((rs.map (·.1)).drop kk) := by
        cases hh : pvs[kk]? with
        | none => rw [hh] at hat; cases hat
        | some pk => rw [hh] at hat; exact ⟨pk, rfl, Option.some.inj hat⟩
      obtain ⟨pl, pv⟩ := pk
      have hpm := List.mem_of_getElem? hpk
      have hpB := HPI.out.past.by' _ hpm
      simp only at hpB hpke
      obtain ⟨pa, pc, rfl⟩ := Raw.slice hpB
      have hcell : wr.cell? ⟨q, kk, none⟩ = some (.slice pa pl.length pc) := own_cell HPI.out.past.row (by rw [Hn1.out]) (by rw [List.getElem?_map, hpk]; rfl)
      obtain ⟨bl, hbl1, hbl2⟩ := Raw.blocks hpB (by omega)
      have hS0 : ∀ b ∈ q :: bl, ∃ c e f, wr.heap[b]? = some (.cells c e f) := fun b hb => by
        rcases List.mem_cons.1 hb with rfl | hb
        · exact hqc
        · exact (hbl2 b hb).2
      have hoffL : ∀ b ∈ q :: bl, b ∉ LogF g iv rv := fun b hb => by
        rcases List.mem_cons.1 hb with rfl | hb
        · exact HPI.out.past.off b rfl
        · exact fun hm => (hbl2 b hb).1 (List.mem_append_right _ hm)
      have Hpm := Lib.hid hpm
      have Hpke := Lib.hid hpke
      have HoffL := Lib.hid hoffL
      have Hbl1 := Lib.hid hbl1
      have HSs := Lib.hid (same_start hS0)
      have Hat := Lib.hid hat
      clear hpB hpke hat hoffL hbl1 hbl2 hpk hpm
      go_wp2
      refine Txt.wp_cut [2, 9, 5] (q :: bl) [20, 21] [26] (by kernel_rfl) (by kernel_rfl) (by kernel_rfl) hS0 ?_
      clear hS0 hqc
      simp only [Txt.wpCut, List.take_succ_cons, List.take_zero, List.drop_succ_cons, List.drop_zero]
      go_wp2_with fail
      refine (records_any _ (HPI.out.log.below (Below.refl _ wr).drew) (by omega) (fun p hp => by have := ok_old (chain_ok Hch.out p hp); omega)).mono ?_
      rintro e w5 ⟨v5, rfl, hR5, hb5⟩
      have HS5 := Lib.hid (same_below' HSs.out hb5)
      have hb5 : Below wr.heap.size wr w5 := (Below.refl _ wr).drew.trans hb5
      have HPI5 := Lib.hid (HPI.out.below hb5)
      have hbel5 := hbel.trans (hb5.mono hsz)
      obtain ⟨r5, hr5, hRo5, _⟩ := hR5
      have hl5 : r5.length = rs.length := by have := congrArg List.length hr5; simpa using this
      obtain ⟨a5, c5, rfl⟩ := own_slice hRo5
      rw [hl5]
      have hcell5 : w5.cell? ⟨q, kk, none⟩ = some (.slice pa pl.length pc) := (hb5.cell (p := ⟨q, kk, none⟩) hq).trans hcell
      have hq5 : q < w5.heap.size := Nat.lt_of_lt_of_le hq hb5.size
      clear hRo5 hb5 hcell hl5 hr5
      go_wp2
      refine Txt.SegPost.mk HS5.out ?_
      go_wp2_with fail
      refine (back_yes kk _ HPI5.out.log (by omega) (by omega) (by have := HPI5.out.log.lt; have := HPI5.out.log.hg; omega) hkl (chain_ok Hch.out)).mono ?_
      rintro e w6 ⟨rfl, hst⟩
      obtain ⟨iv6, rv6, r6, hr6, hPI6, hk6⟩ := PI.step HPI5.out hst
      have HS6 := Lib.hid (same_keep HS5.out hk6 HoffL.out)
      have hbel6 := LogAt.steps HPI5.out.log hk6 hs1 (by have := HPI5.out.log.lt; have := HPI5.out.log.hg; omega) hbel5
      have HPI6 := Lib.hid hPI6
      have hq6 : q < w6.heap.size := Nat.lt_of_lt_of_le hq5 hk6.size
      have hcell6 : w6.cell? ⟨q, kk, none⟩ = some (.slice pa pl.length pc) := (hk6.cell hq5 (HoffL.out q (by simp))).trans hcell5
      have Hr6 := Lib.hid hr6
      clear hPI6 hst hk6 hcell5 hr6
      rw [List.map_drop, ← Hpke.out] at HPI6
      go_wp2
      refine Txt.SegPost.mk HS6.out ?_
      go_wp2_with fail
      refine (image_any _ HPI6.out.log (by have := takeAll_short (b := img) (by omega) (all_drop Hch.out.2.1 kk); rw [← Hpke.out] at this; exact this)).mono ?_
      rintro e w7 ⟨v7, rfl, hown7, hb7⟩
      have HS7 := Lib.hid (same_below' HS6.out hb7)
      have hbel7 := hbel6.trans (hb7.mono hbel6.size)
      have HPI7 := Lib.hid (HPI6.out.below hb7)
      have hcell7 : w7.cell? ⟨q, kk, none⟩ = some (.slice pa pl.length pc) := (hb7.cell (p := ⟨q, kk, none⟩) hq6).trans hcell6
      obtain ⟨a7, c7, rfl⟩ := own_slice hown7
      have k1 := run_str (Bytes.row (F := []) hown7 rfl (fun f hf => by cases hf)) 22 5 9 Try.underlying22 Try.underlying5 Try.underlying9
      have k2 := run_str (HPI7.out.past.by' _ Hpm.out) 22 5 9 Try.underlying22 Try.underlying5 Try.underlying9
      have hl6 : r6.length = kk := by
        have := congrArg List.length Hr6.out
        simp at this; omega
      have hok6 : ∀ p ∈ r6, p.1.ok = true := fun p hp => by
        have : p.1 ∈ r6.map (·.1) := List.mem_map.2 ⟨p, hp, rfl⟩
        rw [Hr6.out] at this
        obtain ⟨p', hp', he⟩ := List.mem_map.1 this
        rw [← he]; exact chain_ok Hch.out _ (List.mem_of_mem_take hp')
      have Hok6 := Lib.hid hok6
      have Hl6 := Lib.hid hl6
      clear hb7 hown7 hl6 hok6
      go_wp2
      refine Txt.SegPost.mk HS7.out ?_
      go_wp2_with fail
      refine (records_any _ HPI7.out.log (by rw [Hl6.out]; omega) (fun p hp => by have := ok_old (Hok6.out p hp); omega)).mono ?_
      rintro e w8 ⟨v8, rfl, hR8, hb8⟩
      have hbel8 := hbel7.trans (hb8.mono hbel7.size)
      have HPI8 := Lib.hid (HPI7.out.below hb8)
      obtain ⟨r8, hr8, hRo8, _⟩ := hR8
      have hl8 : r8.length = kk := by have := congrArg List.length hr8; rw [List.length_map, List.length_map, Hl6.out] at this; exact this
      obtain ⟨a8, c8, rfl⟩ := own_slice hRo8
      rw [hl8]
      clear hRo8 hb8 hl8 hr8 k1 k2
      go_wp2
      refine Txt.DrawPost.mk (by rfl) ⟨.head _, Hbl1.out _ (fun b hb => List.mem_cons_of_mem _ hb), trivial⟩ ?_
      have hpl : pl.length ≤ 24000 := by have := takeAll_short (b := img) (by omega) (all_drop Hch.out.2.1 kk); rw [← Hpke.out] at this; exact this
      have hback : takeAll pl (r6.map (·.1)) = b := by
        rw [Hr6.out, Hpke.out, List.map_take, ← takeAll_append, List.take_append_drop]
        exact Hch.out.first H0.out
      have Hback := Lib.hid hback; clear hback
      go_wp2
      have hBk : Bytes (LogF g iv6 rv6) w8 (.slice ba b.length bc) b := Raw.keep HB.out (Keep.of_below (F := []) hbel8 (fun k hk _ => hk)) (fun f hf => by cases hf) (fun f hf => .inr (Nat.le_trans hs1 (HPI8.out.log.fbase f hf).1))
      obtain ⟨cl, hcl1, hcl2⟩ := Raw.blocks hBk (by omega)
      have hT0 : ∀ b ∈ cl, ∃ c e f, w8.heap[b]? = some (.cells c e f) := fun b hb => (hcl2 b hb).2
      have HTs := Lib.hid (same_start hT0)
      have Hcl1 := Lib.hid hcl1
      have Hcl2 := Lib.hid hcl2
      clear hBk hcl1 hcl2
      refine Txt.wp_cut [2, 4] cl [8] [13] (by kernel_rfl) (by kernel_rfl) (by kernel_rfl) hT0 ?_
      clear hT0
      simp only [Txt.wpCut, List.take_succ_cons, List.take_zero, List.drop_succ_cons, List.drop_zero]
      go_wp2_with fail
      refine (rollback_any _ (HPI8.out.log.below (Below.refl _ w8).drew) hpl (by rw [Hl6.out]; omega) (by have := HPI8.out.log.lt; have := HPI8.out.log.hg; simp; omega) Hok6.out).mono ?_
      rintro e w9 ⟨rfl, iv9, rv9, r9, hr9, hL9, hk9, _⟩
      have HT9 := Lib.hid (same_keep HTs.out hk9 (fun b hb => (Hcl2.out b hb).1))
      simp only [if_true] at hL9 ⊢
      rw [Hback.out] at hL9
      have hbel9 := LogAt.steps (HPI8.out.log.below (Below.refl _ w8).drew) hk9 hs1 (by have := HPI8.out.log.lt; have := HPI8.out.log.hg; simp; omega) (hbel8.trans ((Below.refl _ w8).drew.mono hbel8.size))
      have HL9 := Lib.hid hL9
      clear hL9 hk9 hr9
      go_wp2
      refine Txt.SegPost.mk HT9.out ?_
      go_wp2_with fail
      refine (image_any _ HL9.out (by omega)).mono ?_
      rintro e w10 ⟨v10, rfl, hown10, hb10⟩
      have HT10 := Lib.hid (same_below' HT9.out hb10)
      have hbel10 := hbel9.trans (hb10.mono hbel9.size)
      have HL10 := Lib.hid (HL9.out.below hb10)
      obtain ⟨a10, c10, rfl⟩ := own_slice hown10
      have k1 := run_str (Bytes.row (F := []) hown10 rfl (fun f hf => by cases hf)) 22 5 9 Try.underlying22 Try.underlying5 Try.underlying9
      have k2 := run_str (Raw.below HB.out hbel10) 22 5 9 Try.underlying22 Try.underlying5 Try.underlying9
      clear hb10 hown10
      go_wp2
      refine Txt.SegPost.mk HT10.out ?_
      go_wp2_with fail
      refine (open_any _ HL10.out).mono ?_
      rintro e w' ⟨rfl, rfl⟩
      go_wp2
      refine Txt.DrawPost.mk (by rfl) ⟨Hcl1.out _ (fun b hb => hb), trivial⟩ ?_
      go_wp2
      go_ret
      exact ⟨rfl, hbel10⟩
end Go.Proofs.Yteefimjgcabpoaa
