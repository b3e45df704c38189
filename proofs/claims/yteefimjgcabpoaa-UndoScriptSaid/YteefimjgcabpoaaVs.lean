/- Undo: the walk of UndoScript -/
import Derived.Test.YteefimjgcabpoaaVr
namespace Go.Proofs.Yteefimjgcabpoaa
open Go.RowKit Go.Bs Go.Cl Go.Rw Go.Un
theorem sc_start {w2 w4 : World} {N g : Nat} {iv v4 : Value} {b : List UInt8} (hL : LogAt w2 N g iv (.slice none 0 0) b [] false) (hb4 : Below w2.heap.size w2 w4) (hown : w4.ownsRow w2.heap.size 5 1 v4 b.length (bytesV b)) :
    Sc N (w4.alloc (.cells #[v4, .slice none 0 0, .slice none 0 0, .bool false] 48)) w4.heap.size g iv (.slice none 0 0) [] v4 (.slice none 0 0) (.slice none 0 0) ⟨b, [], [], false⟩ := by
  have al := (Below.refl w4.heap.size w4).alloc (Nat.le_refl _) (.cells #[v4, .slice none 0 0, .slice none 0 0, .bool false] 48)
  have hL4 := hL.below hb4
  have hs := hb4.size
  refine ⟨hL4.below al, rfl, heap_alloc_new w4 _, (fun hm => ?_), ⟨?_, ⟨[], Raw.empty _ _ _, rfl, (fun _ h => by cases h)⟩, [], ⟨Raw.empty _ _ _, (fun _ h => by cases h)⟩, rfl⟩, (fun p hp => by cases hp), ?_⟩
  · have := (hL4.fbase _ hm).2; omega
  · have h1 : Bytes (LogF g iv (.slice none 0 0)) w4 v4 b := Bytes.row hown rfl (fun f hf => (hL.fbase f hf).2)
    exact Raw.keep h1 (Keep.of_below' (F := []) al) (fun f hf => by cases hf) (fun f hf => by
      rcases List.mem_cons.1 hf with rfl | hf
      · exact .inr (Nat.le_refl _)
      · exact .inl hf)
  · have := hL.lt; have := hL.hg; omega
theorem ok_old {r : Rec} (h : r.ok = true) : r.old.length ≤ 24000 := by have := Rec.ok_iff.1 h; omega
theorem stp_at' {w : World} {F : List Nat} {v : Value} {ss : List (Stp × Value)} (h : StepL F w v ss) {i : Nat} (hi : i < ss.length) : Bytes F w (stpAt ss i).2 (stpAt ss i).1.d := h.2 _ (List.mem_of_getElem? (stpAt_get hi))
set_option maxRecDepth 100000 in
set_option maxHeartbeats 8000000 in
theorem undoScript_any (bv sv : Value) (b : List UInt8) (ss : List (Stp × Value)) (w : World) (hB : Bytes [] w bv b) (hS : StepL [] w sv ss) (hf : ∀ q ∈ ss, q.1.fits) :
    Calls Try.prog 5 #[bv, sv] w fun e w' => e = .returned (.bool true) ∧ Below w.heap.size w w' := by
  obtain ⟨sa, sc, rfl⟩ := Raw.slice hS.1
  obtain ⟨ba, bc, rfl⟩ := Raw.slice hB
  have hsl : ss.length ≤ 9223372036854775807 := by
    obtain ⟨_, _, _, _, e, h1, h2, _⟩ := hS.1
    cases e; unfold maxLen at h2; omega
  have HS := Lib.hid hS; clear hS
  have HB := Lib.hid hB; clear hB
  have HF := Lib.hid hf; clear hf
  cases hfew : fewS b (ss.map (·.1))
  · have Hfew := Lib.hid hfew; clear hfew
    go_enter Try.func5, Try.ntmps5
    go_wp2_with fail
    refine (awake_any _).mono ?_
    rintro e w1 ⟨rfl, hb1⟩
    go_wp2_with fail
    refine (fews_any _ _ b ss _ hsl ⟨_, _, rfl⟩ (HS.out.below hb1)).mono ?_
    rw [Hfew.out]
    rintro e w' ⟨rfl, rfl⟩
    go_wp2
    go_ret
    exact ⟨rfl, hb1⟩
  obtain ⟨hbl, hsn, hgood⟩ := fewS_at hfew
  have Hgood := Lib.hid hgood
  have Hfew := Lib.hid hfew
  clear hgood hfew
  go_enter Try.func5, Try.ntmps5
  go_wp2_with fail
  refine (awake_any _).mono ?_
  rintro e w1 ⟨rfl, hb1⟩
  have hs1 := hb1.size
  go_wp2_with fail
  refine (fews_any _ _ b ss _ hsl ⟨_, _, rfl⟩ (HS.out.below hb1)).mono ?_
  rw [Hfew.out]
  rintro e w' ⟨rfl, rfl⟩
  go_wp2_with fail
  refine (new_any _ b _ (by omega) (Raw.below HB.out hb1)).mono ?_
  rintro e w2 ⟨g, iv, rfl, hL, hb2⟩
  obtain ⟨N, hN⟩ : ∃ N, N = w1.heap.size := ⟨_, rfl⟩
  have hB2 := Raw.below (Raw.below HB.out hb1) hb2
  rw [← hN] at hL hs1 hb2
  have hbel2 := hb1.trans (hb2.mono hs1)
  have hN2 : N ≤ w2.heap.size := by have := hL.lt; have := hL.hg; omega
  have al := (Below.refl w2.heap.size w2).alloc (Nat.le_refl _) (.cells #[] 5)
  have hbel3 := hbel2.trans (al.mono hbel2.size)
  have HL := Lib.hid hL
  have HB3 := Lib.hid (Raw.below hB2 al)
  have HO := Lib.hid (own_empty w2 w2.heap.size 5 1 (Nat.le_refl _))
  clear hL hb2 hb1 hN hB2
  go_wp2_with (at_builtin; refine wpList_app el22 Try.underlying22 HO.out HB3.out al rfl _ _ rfl rfl rfl ?c3 (Nat.le_refl _) ?c5 ?_)
  case c3 => omega
  case c5 => simp
  intro v4 w4 hown4 hb4 hg4 hs4
  have hown4 : w4.ownsRow w2.heap.size 5 1 v4 b.length (bytesV b) := by simpa using hown4
  obtain ⟨a4, c4, rfl⟩ := own_slice hown4
  have hsc := sc_start HL.out hb4 hown4
  have al2 := (Below.refl w4.heap.size w4).alloc (Nat.le_refl _) (.cells #[.slice a4 b.length c4, .slice none 0 0, .slice none 0 0, .bool false] 48)
  have hbel5 := (hbel2.trans (hb4.mono hbel2.size)).trans (al2.mono (Nat.le_trans hbel2.size hb4.size))
  obtain ⟨G, hG⟩ : ∃ G, G = w4.heap.size := ⟨_, rfl⟩
  rw [← hG] at hsc
  have HSc := Lib.hid hsc
  have hok0 : (⟨b, [], [], false⟩ : Md).ok := ⟨Chain.nil _, by simp only; omega, fun p hp => by cases hp⟩
  have HOk := Lib.hid hok0
  clear hown4 hb4 hg4 hs4 hsc al al2 hbel3 HO HB3 HL hok0
  go_wp2
  rw [← hG]
  clear hG
  go_loopw [8] (fun i wr => ∃ (k : Nat) (iv rv : Value) (rs : List (Rec × Value)) (mi mp mr : Value) (m : Md), k ≤ ss.length ∧ i = .int .i64 k ∧ Sc N wr G g iv rv rs mi mp mr m ∧ m.ok ∧ m.rs.length ≤ k ∧ Below w.heap.size w wr) (fun i _ => ss.length - (intOf i).toNat)
  case atStart => exact ⟨0, _, _, _, _, _, _, _, Nat.zero_le _, rfl, HSc.out, HOk.out, Nat.le_refl _, hbel5⟩
  case round =>
    clear HSc HOk hbel5 hbel2
    obtain ⟨k, iv, rv, rs, mi, mp, mr, m, hk, rfl, hsc, hok, hrl, hbel⟩ := hrel
    by_cases hlt : k < ss.length
    · obtain ⟨b0, off, rfl, hb0, s0, s1, s2, hm, qa, qc, hqq⟩ := (HS.out.below hbel).elem hlt
      have hgd := Hgood.out _ hm
      obtain ⟨hf1, hf2, hf3, hf4⟩ := HF.out _ hm
      have hd := stp_at' HS.out hlt
      have hd0 := Raw.below hd hbel
      obtain ⟨sq, hsq⟩ : ∃ sq, sq = stpAt ss k := ⟨_, rfl⟩
      rw [← hsq] at s0 s1 s2 hqq hgd hf1 hf2 hf3 hf4 hd hd0
      clear hsq hm
      obtain ⟨⟨so, sn, sb⟩, sv⟩ := sq
      simp only at s0 s1 s2 hqq hgd hf1 hf2 hf3 hf4 hd hd0
      subst hqq
      have hdl := goodS_d hgd
      simp only at hdl
      obtain ⟨hst1, hok1, hrl1⟩ := nxt_stp hok hgd
      have hrs1 : m.rs.length ≤ 1000 := by omega
      have hrs0 : rs.length ≤ 1000 := by have := congrArg List.length hsc.rsm; rw [List.length_map] at this; omega
      have hrok : ∀ p ∈ rs, p.1.ok = true := fun p hp => List.all_eq_true.1 hok.1.2.1 _ (by rw [← hsc.rsm]; exact List.mem_map.2 ⟨p, hp, rfl⟩)
      have hNw : N ≤ wr.heap.size := by have := hsc.log.lt; have := hsc.log.hg; omega
      have hsz := hbel.size
      have hil := hok.2.1
      obtain ⟨z, hz⟩ : ∃ z, z = nxt m so sn sb := ⟨_, rfl⟩
      rw [← hz] at hst1 hok1 hrl1
      obtain ⟨n, er⟩ := z
      simp only at hst1 hok1 hrl1
      have HZ := Lib.hid hz
      have HSt := Lib.hid hst1
      have HOk := Lib.hid hok
      have HOk1 := Lib.hid hok1
      have HSc := Lib.hid hsc
      have HRok := Lib.hid hrok
      have HD := Lib.hid hd
      have HD0 := Lib.hid hd0
      clear hz hst1 hok hok1 hsc hrok hd hgd hd0
      go_wp2
      go_cut [9, 10] from 35 to 43 (fun s9 s10 wx => ∃ G2 ni np nr, s9 = .pointer (some ⟨G2, 0, none⟩) ∧ s10 = .int .i64 er ∧ Sd N wr.drew wx G G2 g iv rv rs mi mp mr m ni np nr n)
      case first =>
        have hBl : ∀ q ∈ [G, b0], ∃ c e f, wr.heap[q]? = some (.cells c e f) := fun q hq => by
          rcases List.mem_cons.1 hq with rfl | hq
          · exact ⟨_, _, _, HSc.out.box⟩
          · rw [List.mem_singleton.1 hq]; exact Txt.cells_of s0
        have HSm := Lib.hid (same_start hBl)
        have HScu := Lib.hid (HSc.out.below (Below.refl wr.heap.size wr).drew)
        have HDu := Lib.hid (Raw.drew HD0.out)
        have m0 := box_at HScu.out.box (j := 0) rfl
        have m1 := box_at HScu.out.box (j := 1) rfl
        have m2 := box_at HScu.out.box (j := 2) rfl
        have m3 := box_at HScu.out.box (j := 3) rfl
        obtain ⟨ma, mc, rfl⟩ := Raw.slice HSc.out.md.img
        obtain ⟨_, hp, _⟩ := HSc.out.md.past
        obtain ⟨pa, pc, rfl⟩ := Raw.slice hp
        obtain ⟨_, hr, _⟩ := HSc.out.md.recs
        obtain ⟨ra, rc, rfl⟩ := Raw.slice hr.1
        clear hp hr
        refine Txt.Ty.wp_tree [G, b0] [0, 4] [10] [0, 4] [0, 1, 2, 3, 4] (.alt [5, 6, 7, 8] (.alt [9] (.alt [10, 11] (.done) (.no)) (.no)) (.alt [9] (.alt [5, 6, 7, 8] (.alt [10, 11] (.done) (.no)) (.no)) (.no))) (by kernel_rfl) (by kernel_rfl) (by kernel_rfl) (by kernel_rfl) hBl ?_
        clear hBl
        (try simp only [Txt.pick, List.getElem?_cons_succ, List.getElem?_cons_zero])
        go_wp2
        refine Txt.RunPost.mk ?_
        refine Txt.Ty.wpTr_alt ?_ ?_
        · (try simp only [Txt.pick, List.getElem?_cons_succ, List.getElem?_cons_zero])
          go_wp2_with fail
          have st := next_any (F := G :: LogF g iv rv) _ _ _ _ m so sn sb wr.drew HScu.out.lt HOk.out hrs1 (by omega) hf3 hf4 HScu.out.md (Raw.to_nil HDu.out)
          rw [← HZ.out] at st
          refine st.mono ?_
          rintro e w1 ⟨ni, np, nr, rfl, hmd, hb⟩
          have hsd := Sd.mk1 HScu.out hb hmd
          have hS1 := same_below' HSm.out hb
          have hS2 := same_below' hS1 ((Below.refl w1.heap.size w1).alloc (Nat.le_refl _) (.cells #[.slice none 0 0, .slice none 0 0, .slice none 0 0, .bool false] 48))
          obtain ⟨nia, nic, rfl⟩ := Raw.slice hmd.img
          obtain ⟨_, hp, _⟩ := hmd.past
          obtain ⟨npa, npc, rfl⟩ := Raw.slice hp
          obtain ⟨_, hr, _⟩ := hmd.recs
          obtain ⟨nra, nrc, rfl⟩ := Raw.slice hr.1
          have HSd := Lib.hid hsd
          have HS1 := Lib.hid hS1
          have HS2 := Lib.hid hS2
          clear hp hr hmd hb hsd hS1 hS2 st
          go_wp2
          refine Txt.SegPost.mk (Txt.Ty.Shown.same HS1.out) ?_
          (try simp only [Txt.pick, List.getElem?_cons_succ, List.getElem?_cons_zero])
          go_wp2
          refine Txt.RunPost.mk ?_
          refine Txt.Ty.wpTr_alt ?_ Txt.Ty.wpTr_no
          (try simp only [Txt.pick, List.getElem?_cons_succ, List.getElem?_cons_zero])
          go_wp2
          refine Txt.SegPost.mk (Txt.Ty.Shown.same HS2.out) ?_
          refine Txt.RunPost.mk ?_
          refine Txt.Ty.wpTr_alt ?_ Txt.Ty.wpTr_no
          (try simp only [Txt.pick, List.getElem?_cons_succ, List.getElem?_cons_zero])
          go_wp2
          refine Txt.SegPost.mk (Txt.Ty.Shown.last rfl) ?_
          (try simp only [Txt.pick, List.getElem?_cons_succ, List.getElem?_cons_zero])
          go_wp2
          refine Txt.RunPost.mk ?_
          refine Txt.Ty.wpTr_done (by rfl) ⟨.head _, .tail _ (.head _), trivial⟩ ?_
          go_wp2
          go_meet
          case rel => exact ⟨_, _, _, _, rfl, rfl, HSd.out⟩
        · refine Txt.Ty.wpTr_alt ?_ Txt.Ty.wpTr_no
          (try simp only [Txt.pick, List.getElem?_cons_succ, List.getElem?_cons_zero])
          go_wp2
          have al := (Below.refl wr.drew.heap.size wr.drew).alloc (Nat.le_refl _) (.cells #[.slice none 0 0, .slice none 0 0, .slice none 0 0, .bool false] 48)
          have hS1 := same_below' HSm.out al
          refine Txt.SegPost.mk (Txt.Ty.Shown.same hS1) ?_
          refine Txt.RunPost.mk ?_
          refine Txt.Ty.wpTr_alt ?_ Txt.Ty.wpTr_no
          (try simp only [Txt.pick, List.getElem?_cons_succ, List.getElem?_cons_zero])
          have hmdA : MdAt (wr.drew.heap.size :: G :: LogF g iv rv) (wr.drew.alloc (.cells #[.slice none 0 0, .slice none 0 0, .slice none 0 0, .bool false] 48)) _ _ _ m := HScu.out.md.keep (G := []) (Keep.of_below' al) (fun f hf => by cases hf) (fun f hf => by
            rcases List.mem_cons.1 hf with rfl | hf
            · exact .inr (Nat.le_refl _)
            · exact .inl hf)
          have hltA : ∀ f ∈ wr.drew.heap.size :: G :: LogF g iv rv, f < (wr.drew.alloc (.cells #[.slice none 0 0, .slice none 0 0, .slice none 0 0, .bool false] 48)).heap.size := fun f hf => by
            rcases List.mem_cons.1 hf with rfl | hf
            · simp
            · exact Nat.lt_of_lt_of_le (HScu.out.lt f hf) al.size
          have hDA := Raw.below (Raw.to_nil HDu.out) al
          have HS1 := Lib.hid hS1
          have st := next_any (F := wr.drew.heap.size :: G :: LogF g iv rv) _ _ _ _ m so sn sb (wr.drew.alloc (.cells #[.slice none 0 0, .slice none 0 0, .slice none 0 0, .bool false] 48)) hltA HOk.out hrs1 (by omega) hf3 hf4 hmdA hDA
          rw [← HZ.out] at st
          have St := Lib.hid st
          clear hmdA hltA hDA st hS1 al
          go_wp2_with fail
          refine St.out.mono ?_
          rintro e w1 ⟨ni, np, nr, rfl, hmd, hb⟩
          have hsd := Sd.mk2 HScu.out hb rfl hmd
          have hz : w1.heap[wr.heap.size]? = _ := (hb.block wr.drew.heap.size (by simp)).trans (heap_alloc_new wr.drew (.cells #[.slice none 0 0, .slice none 0 0, .slice none 0 0, .bool false] 48))
          have hS2 := same_below' HS1.out hb
          have z0 := box_at hz (j := 0) rfl
          have z1 := box_at hz (j := 1) rfl
          have z2 := box_at hz (j := 2) rfl
          have z3 := box_at hz (j := 3) rfl
          have y0 := box_free hz 0
          have y1 := box_free hz 1
          have y2 := box_free hz 2
          have y3 := box_free hz 3
          obtain ⟨nia, nic, rfl⟩ := Raw.slice hmd.img
          obtain ⟨_, hp, _⟩ := hmd.past
          obtain ⟨npa, npc, rfl⟩ := Raw.slice hp
          obtain ⟨_, hr, _⟩ := hmd.recs
          obtain ⟨nra, nrc, rfl⟩ := Raw.slice hr.1
          have HSd := Lib.hid hsd
          have HS2 := Lib.hid hS2
          clear hp hr hmd hb hsd hS2 hz St
          go_wp2
          refine Txt.SegPost.mk (Txt.Ty.Shown.same HS2.out) ?_
          (try simp only [Txt.pick, List.getElem?_cons_succ, List.getElem?_cons_zero])
          go_wp2
          refine Txt.RunPost.mk ?_
          refine Txt.Ty.wpTr_alt ?_ Txt.Ty.wpTr_no
          (try simp only [Txt.pick, List.getElem?_cons_succ, List.getElem?_cons_zero])
          go_wp2
          refine Txt.SegPost.mk (Txt.Ty.Shown.last rfl) ?_
          (try simp only [Txt.pick, List.getElem?_cons_succ, List.getElem?_cons_zero])
          go_wp2
          refine Txt.RunPost.mk ?_
          refine Txt.Ty.wpTr_done (by rfl) ⟨.head _, .tail _ (.head _), trivial⟩ ?_
          go_wp2
          go_meet
          case rel => exact ⟨_, _, _, _, rfl, rfl, HSd.out⟩
      case rest =>
        obtain ⟨G2, ni, np, nr, rfl, rfl, hSd⟩ := hcut
        have hbc : Below wr.heap.size wr wc := (Below.refl wr.heap.size wr).drew.trans hSd.bel
        have hbelc := hbel.trans (hbc.mono hsz)
        have s0 := (hbc.cell (p := ⟨b0, off + k * 3, none⟩) hb0).trans s0
        have s1 := (hbc.cell (p := ⟨b0, off + k * 3 + 1, none⟩) hb0).trans s1
        have s2 := (hbc.cell (p := ⟨b0, off + k * 3 + 2, none⟩) hb0).trans s2
        have hNc : N ≤ wc.heap.size := Nat.le_trans hNw hbc.size
        have hdc : Bytes (LogF g iv rv) wc (.slice qa sb.length qc) sb := Raw.keep HD.out (Keep.of_below (F := []) hbelc (fun k hk _ => hk)) (fun f hf => by cases hf) (fun f hf => .inr (Nat.le_trans hs1 (hSd.sc.log.fbase f hf).1))
        have st := do_any so sn _ sb wc hSd.sc.log (by omega) hrs0 hNc HRok.out hdc (by omega) hf3 hf4
        rw [hSd.sc.rsm] at st
        rw [show stp ⟨m.img, m.rs, m.fin⟩ so sn sb = (n.st, er) from HSt.out] at st
        have St := Lib.hid st
        have HSd := Lib.hid hSd
        clear st hSd hdc
        go_wp2_with fail
        refine St.out.mono ?_
        rintro e w3 ⟨rfl, hst⟩
        simp only
        obtain ⟨⟨g2, g1⟩, iv3, rv3, rs3, hsc3, hB3⟩ := sd_next HSd.out (HSc.out.below (Below.refl wr.heap.size wr).drew) hst rfl
        have hbel3 := hbelc.trans (hB3 w.heap.size hs1)
        have hN3 : N ≤ (((w3.setCell ⟨G, 0, none⟩ ni).setCell ⟨G, 1, none⟩ np).setCell ⟨G, 2, none⟩ nr |>.setCell ⟨G, 3, none⟩ (.bool n.fin)).heap.size := by have := hsc3.log.lt; have := hsc3.log.hg; omega
        have x0 := box_at g2 (j := 0) rfl
        have x1 := box_at g2 (j := 1) rfl
        have x2 := box_at g2 (j := 2) rfl
        have x3 := box_at g2 (j := 3) rfl
        have y0 := box_at g1 (j := 0) rfl
        have y1 := box_at g1 (j := 1) rfl
        have y2 := box_at g1 (j := 2) rfl
        have y3 := box_at g1 (j := 3) rfl
        have z0 := box_free g1 0
        have z1 := box_free g1 1
        have z2 := box_free g1 2
        have z3 := box_free g1 3
        obtain ⟨nia, nic, rfl⟩ := Raw.slice hsc3.md.img
        obtain ⟨npl, hp, _⟩ := hsc3.md.past
        obtain ⟨npa, npc, rfl⟩ := Raw.slice hp
        obtain ⟨nrl, hr, _⟩ := hsc3.md.recs
        obtain ⟨nra, nrc, rfl⟩ := Raw.slice hr.1
        have HSc3 := Lib.hid hsc3
        clear hp hr hst g1 g2 hsc3 hB3 s0 s1 s2 St HSd HSc
        go_upto_region 16 with (fail)
        obtain ⟨W3, hW3⟩ : ∃ W3, W3 = (((w3.setCell ⟨G, 0, none⟩ (.slice nia n.img.length nic)).setCell ⟨G, 1, none⟩ (.slice npa npl.length npc)).setCell ⟨G, 2, none⟩ (.slice nra nrl.length nrc)).setCell ⟨G, 3, none⟩ (.bool n.fin) := ⟨_, rfl⟩
        rw [← hW3] at HSc3 hbel3 hN3
        rw [← hW3]
        clear hW3 x0 x1 x2 x3 y0 y1 y2 y3 z0 z1 z2 z3
        have hil3 := HOk1.out.2.1
        go_wp2_with fail
        refine (image_any _ HSc3.out.log (by omega)).mono ?_
        rintro e w5 ⟨v5, rfl, hown5, hb5⟩
        obtain ⟨a5, c5, rfl⟩ := own_slice hown5
        by_cases hi0 : 0 < n.img.length
        · rcases own_cases hown5 with ⟨_, hz0, _⟩ | ⟨q5, cap5, hv5, hq5, hq5s, hcap5⟩
          · omega
          cases hv5
          have hc5 := own_cell hown5 rfl (show (bytesV n.img)[0]? = some (byteV (n.img[0]'hi0)) by simp [bytesV, hi0])
          have hf5 := own_frozen hown5 0
          unfold byteV at hc5
          have hx5 := (n.img[0]'hi0).toNat_lt
          obtain ⟨x5, hx⟩ : ∃ x, x = (n.img[0]'hi0).toNat := ⟨_, rfl⟩
          rw [← hx] at hc5 hx5
          have HSc6 := Lib.hid fun (u : Value) => HSc3.out.below (hb5.setCell (p := ⟨q5, 0, none⟩) hq5 u)
          have Hbel6 := Lib.hid fun (u : Value) => (hbel3.trans (hb5.mono hbel3.size)).setCell (p := ⟨q5, 0, none⟩) (Nat.le_trans hbel3.size hq5) u
          clear hown5 hb5 hx HSc3
          go_upto_region 19 with (fail)
          have hsc5 := HSc6.out (.int .u8 ((x5 + 1) % 256))
          have hbel6 := Hbel6.out (.int .u8 ((x5 + 1) % 256))
          obtain ⟨w6, hw6⟩ : ∃ w6, w6 = w5.setCell ⟨q5, 0, none⟩ (.int .u8 ((x5 + 1) % 256)) := ⟨_, rfl⟩
          rw [← hw6] at hsc5 hbel6 ⊢
          clear hw6 HSc6 Hbel6 hc5 hf5
          have HSc6 := Lib.hid hsc5
          clear hsc5
          have hsc6 := HSc6.out
          obtain ⟨bl, hbl1, hbl2⟩ := Raw.blocks hsc6.md.img (by omega)
          have hBl : ∀ q ∈ G :: bl, ∃ c e f, w6.heap[q]? = some (.cells c e f) := fun q hq => by
            rcases List.mem_cons.1 hq with rfl | hq
            · exact ⟨_, _, _, hsc6.box⟩
            · exact (hbl2 q hq).2
          have HS6 := Lib.hid (same_start hBl)
          have Hbl1 := Lib.hid hbl1
          have hscu := hsc6.below (Below.refl w6.heap.size w6).drew
          have m0 := box_at hscu.box (j := 0) rfl
          have k5 := run_str hscu.md.img 22 5 9 Try.underlying22 Try.underlying5 Try.underlying9
          have HScu := Lib.hid hscu
          have hrs3 : rs3.length ≤ 1000 := by have := congrArg List.length hscu.rsm; rw [List.length_map] at this; omega
          have hold3 : ∀ p ∈ rs3, p.1.old.length ≤ 24000 := fun p hp => by
            have hpo : p.1.ok = true := List.all_eq_true.1 HOk1.out.1.2.1 _ (by rw [← hscu.rsm]; exact List.mem_map.2 ⟨p, hp, rfl⟩)
            have := ok_old hpo; omega
          have Hold3 := Lib.hid hold3
          have hbel6 := hbel6.trans ((Below.refl w6.heap.size w6).drew.mono hbel6.size)
          have hw6 : w.heap.size ≤ w6.drew.heap.size := hbel6.size
          clear hsc6 hbl1 hbl2 hscu hold3
          refine Txt.Ty.wp_tree (G :: bl) [4, 5, 12, 20] [] [2, 4, 5, 12, 20] [0, 3, 4, 5] (.alt [1, 2, 6, 7, 8, 11, 12] (.alt [9] (.alt [10] (.alt [13, 14, 15, 16, 17, 19, 20] (.alt [18, 21, 22] (.done) (.no)) (.no)) (.no)) (.no)) (.no)) (by kernel_rfl) (by kernel_rfl) (by kernel_rfl) (by kernel_rfl) hBl ?_
          clear hBl
          (try simp only [Txt.pick, List.getElem?_cons_succ, List.getElem?_cons_zero])
          go_wp2
          refine Txt.RunPost.mk ?_
          refine Txt.Ty.wpTr_alt ?_ Txt.Ty.wpTr_no
          (try simp only [Txt.pick, List.getElem?_cons_succ, List.getElem?_cons_zero])
          go_wp2_with fail
          refine (image_any _ HScu.out.log (by omega)).mono ?_
          rintro e w7 ⟨v7, rfl, hown7, hb7⟩
          obtain ⟨a7, c7, rfl⟩ := own_slice hown7
          have HS7 := Lib.hid (same_below' HS6.out hb7)
          have hsc7 := HScu.out.below hb7
          have k7 := run_str (Bytes.row (F := []) hown7 rfl (fun f hf => by cases hf)) 22 5 9 Try.underlying22 Try.underlying5 Try.underlying9
          have m2 := box_at hsc7.box (j := 2) rfl
          have HSc7 := Lib.hid hsc7
          have hbel7 := hbel6.trans (hb7.mono hw6)
          have hw7 := Nat.le_trans hw6 hb7.size
          clear hown7 hb7 hsc7 m0
          go_wp2
          refine Txt.SegPost.mk (Txt.Ty.Shown.same HS7.out) ?_
          (try simp only [Txt.pick, List.getElem?_cons_succ, List.getElem?_cons_zero])
          go_wp2
          refine Txt.RunPost.mk ?_
          clear k5 k7
          refine Txt.Ty.wpTr_alt ?_ Txt.Ty.wpTr_no
          (try simp only [Txt.pick, List.getElem?_cons_succ, List.getElem?_cons_zero])
          go_wp2_with fail
          refine (records_any _ HSc7.out.log hrs3 (fun p hp => by have := Hold3.out p hp; omega)).mono ?_
          rintro e w8 ⟨v8, rfl, hR8, hb8⟩
          obtain ⟨rs8, he8, hR8⟩ := hR8.recs
          have HS8 := Lib.hid (same_below' HS7.out hb8)
          have HSc8 := Lib.hid (HSc7.out.below hb8)
          have hbel8 := hbel7.trans (hb8.mono hw7)
          have hw8 := Nat.le_trans hw7 hb8.size
          have hl8 : rs8.length ≤ 1000 := by have := congrArg List.length he8; rw [List.length_map, List.length_map] at this; omega
          have hold8 : ∀ p ∈ rs8, p.1.old.length ≤ 1000000 := fun p hp => by
            have hm8 : p.1 ∈ rs8.map (·.1) := List.mem_map.2 ⟨p, hp, rfl⟩
            rw [he8] at hm8
            obtain ⟨p', hp', e'⟩ := List.mem_map.1 hm8
            rw [← e']; have := Hold3.out p' hp'; omega
          have Hold8 := Lib.hid hold8
          have He8 := Lib.hid he8
          have HR8 := Lib.hid hR8
          obtain ⟨va8, vc8, rfl⟩ := Raw.slice hR8.1
          clear hR8 he8 hb8 hold8 m2
          go_wp2
          refine Txt.SegPost.mk (Txt.Ty.Shown.same HS8.out) ?_
          refine Txt.RunPost.mk ?_
          refine Txt.Ty.wpTr_alt ?_ Txt.Ty.wpTr_no
          (try simp only [Txt.pick, List.getElem?_cons_succ, List.getElem?_cons_zero])
          go_wp2_with fail
          refine (from_any _ rs8 _ (by omega) HR8.out Hold8.out).mono ?_
          rintro e w9 ⟨v9, rfl, hR9, hb9⟩
          obtain ⟨rs9, he9, hR9⟩ := hR9.recs
          have HS9 := Lib.hid (same_below' HS8.out hb9)
          have HSc9 := Lib.hid (HSc8.out.below hb9)
          have hbel9 := hbel8.trans (hb9.mono hw8)
          have hw9 := Nat.le_trans hw8 hb9.size
          have HE9 : Hid (rs9.map (·.1) = n.rs) := Lib.hid (by rw [he9, He8.out, HSc9.out.rsm])
          have hl9 : rs9.length ≤ 1000 := by have := congrArg List.length he9; rw [List.length_map, List.length_map] at this; omega
          have HR9 := Lib.hid hR9
          obtain ⟨va9, vc9, rfl⟩ := Raw.slice hR9.1
          clear hR9 he9 hb9
          go_wp2
          refine Txt.SegPost.mk (Txt.Ty.Shown.same HS9.out) ?_
          refine Txt.RunPost.mk ?_
          refine Txt.Ty.wpTr_alt ?_ Txt.Ty.wpTr_no
          (try simp only [Txt.pick, List.getElem?_cons_succ, List.getElem?_cons_zero])
          go_wp2_with fail
          obtain ⟨rsm9, hRm9, hem9⟩ := HSc9.out.md.recs
          refine (same_eq _ _ rs9 rsm9 _ (by omega) HR9.out ⟨Raw.to_nil hRm9.1, fun p hp => Raw.to_nil (hRm9.2 p hp)⟩ (HE9.out.trans hem9.symm)).mono ?_
          rintro e w10 ⟨rfl, hb10⟩
          have HS10 := Lib.hid (same_below' HS9.out hb10)
          have hsc10 := HSc9.out.below hb10
          have hbel10 := hbel9.trans (hb10.mono hw9)
          have m3 := box_at hsc10.box (j := 3) rfl
          have HSc10 := Lib.hid hsc10
          clear hb10 hRm9 hem9 hsc10
          go_wp2
          refine Txt.SegPost.mk (Txt.Ty.Shown.same HS10.out) ?_
          (try simp only [Txt.pick, List.getElem?_cons_succ, List.getElem?_cons_zero])
          go_wp2
          refine Txt.RunPost.mk ?_
          refine Txt.Ty.wpTr_alt ?_ Txt.Ty.wpTr_no
          (try simp only [Txt.pick, List.getElem?_cons_succ, List.getElem?_cons_zero])
          go_wp2_with fail
          refine (open_any _ HSc10.out.log).mono ?_
          rintro e w' ⟨rfl, rfl⟩
          go_wp2
          refine Txt.SegPost.mk (Txt.Ty.Shown.same HS10.out) ?_
          (try simp only [Txt.pick, List.getElem?_cons_succ, List.getElem?_cons_zero])
          go_wp2
          refine Txt.RunPost.mk ?_
          refine Txt.Ty.wpTr_done (by rfl) ⟨.head _, Hbl1.out _ (fun b hb => List.mem_cons_of_mem _ hb), .head _, .head _, trivial⟩ ?_
          go_wp2
          go_roundw
          case rel => exact ⟨k + 1, _, _, _, _, _, _, n, hlt, by go_num, HSc10.out, HOk1.out, by omega, hbel10⟩
          case measure => simp [intOf]; omega
        · have hz0 : ¬ (n.img.length : Int) > 0 := by omega
          have hbel6 := hbel3.trans (hb5.mono hbel3.size)
          have HSc6 := Lib.hid (HSc3.out.below hb5)
          clear hown5 hb5 HSc3
          go_upto_region 19 with (fail)
          obtain ⟨w6, hw6⟩ : ∃ w6, w6 = w5 := ⟨_, rfl⟩
          rw [← hw6] at HSc6 hbel6 ⊢
          clear hw6
          have hsc6 := HSc6.out
          obtain ⟨bl, hbl1, hbl2⟩ := Raw.blocks hsc6.md.img (by omega)
          have hBl : ∀ q ∈ G :: bl, ∃ c e f, w6.heap[q]? = some (.cells c e f) := fun q hq => by
            rcases List.mem_cons.1 hq with rfl | hq
            · exact ⟨_, _, _, hsc6.box⟩
            · exact (hbl2 q hq).2
          have HS6 := Lib.hid (same_start hBl)
          have Hbl1 := Lib.hid hbl1
          have hscu := hsc6.below (Below.refl w6.heap.size w6).drew
          have m0 := box_at hscu.box (j := 0) rfl
          have k5 := run_str hscu.md.img 22 5 9 Try.underlying22 Try.underlying5 Try.underlying9
          have HScu := Lib.hid hscu
          have hrs3 : rs3.length ≤ 1000 := by have := congrArg List.length hscu.rsm; rw [List.length_map] at this; omega
          have hold3 : ∀ p ∈ rs3, p.1.old.length ≤ 24000 := fun p hp => by
            have hpo : p.1.ok = true := List.all_eq_true.1 HOk1.out.1.2.1 _ (by rw [← hscu.rsm]; exact List.mem_map.2 ⟨p, hp, rfl⟩)
            have := ok_old hpo; omega
          have Hold3 := Lib.hid hold3
          have hbel6 := hbel6.trans ((Below.refl w6.heap.size w6).drew.mono hbel6.size)
          have hw6 : w.heap.size ≤ w6.drew.heap.size := hbel6.size
          clear hsc6 hbl1 hbl2 hscu hold3
          refine Txt.Ty.wp_tree (G :: bl) [4, 5, 12, 20] [] [2, 4, 5, 12, 20] [0, 3, 4, 5] (.alt [1, 2, 6, 7, 8, 11, 12] (.alt [9] (.alt [10] (.alt [13, 14, 15, 16, 17, 19, 20] (.alt [18, 21, 22] (.done) (.no)) (.no)) (.no)) (.no)) (.no)) (by kernel_rfl) (by kernel_rfl) (by kernel_rfl) (by kernel_rfl) hBl ?_
          clear hBl
          (try simp only [Txt.pick, List.getElem?_cons_succ, List.getElem?_cons_zero])
          go_wp2
          refine Txt.RunPost.mk ?_
          refine Txt.Ty.wpTr_alt ?_ Txt.Ty.wpTr_no
          (try simp only [Txt.pick, List.getElem?_cons_succ, List.getElem?_cons_zero])
          go_wp2_with fail
          refine (image_any _ HScu.out.log (by omega)).mono ?_
          rintro e w7 ⟨v7, rfl, hown7, hb7⟩
          obtain ⟨a7, c7, rfl⟩ := own_slice hown7
          have HS7 := Lib.hid (same_below' HS6.out hb7)
          have hsc7 := HScu.out.below hb7
          have k7 := run_str (Bytes.row (F := []) hown7 rfl (fun f hf => by cases hf)) 22 5 9 Try.underlying22 Try.underlying5 Try.underlying9
          have m2 := box_at hsc7.box (j := 2) rfl
          have HSc7 := Lib.hid hsc7
          have hbel7 := hbel6.trans (hb7.mono hw6)
          have hw7 := Nat.le_trans hw6 hb7.size
          clear hown7 hb7 hsc7 m0
          go_wp2
          refine Txt.SegPost.mk (Txt.Ty.Shown.same HS7.out) ?_
          (try simp only [Txt.pick, List.getElem?_cons_succ, List.getElem?_cons_zero])
          go_wp2
          refine Txt.RunPost.mk ?_
          clear k5 k7
          refine Txt.Ty.wpTr_alt ?_ Txt.Ty.wpTr_no
          (try simp only [Txt.pick, List.getElem?_cons_succ, List.getElem?_cons_zero])
          go_wp2_with fail
          refine (records_any _ HSc7.out.log hrs3 (fun p hp => by have := Hold3.out p hp; omega)).mono ?_
          rintro e w8 ⟨v8, rfl, hR8, hb8⟩
          obtain ⟨rs8, he8, hR8⟩ := hR8.recs
          have HS8 := Lib.hid (same_below' HS7.out hb8)
          have HSc8 := Lib.hid (HSc7.out.below hb8)
          have hbel8 := hbel7.trans (hb8.mono hw7)
          have hw8 := Nat.le_trans hw7 hb8.size
          have hl8 : rs8.length ≤ 1000 := by have := congrArg List.length he8; rw [List.length_map, List.length_map] at this; omega
          have hold8 : ∀ p ∈ rs8, p.1.old.length ≤ 1000000 := fun p hp => by
            have hm8 : p.1 ∈ rs8.map (·.1) := List.mem_map.2 ⟨p, hp, rfl⟩
            rw [he8] at hm8
            obtain ⟨p', hp', e'⟩ := List.mem_map.1 hm8
            rw [← e']; have := Hold3.out p' hp'; omega
          have Hold8 := Lib.hid hold8
          have He8 := Lib.hid he8
          have HR8 := Lib.hid hR8
          obtain ⟨va8, vc8, rfl⟩ := Raw.slice hR8.1
          clear hR8 he8 hb8 hold8 m2
          go_wp2
          refine Txt.SegPost.mk (Txt.Ty.Shown.same HS8.out) ?_
          refine Txt.RunPost.mk ?_
          refine Txt.Ty.wpTr_alt ?_ Txt.Ty.wpTr_no
          (try simp only [Txt.pick, List.getElem?_cons_succ, List.getElem?_cons_zero])
          go_wp2_with fail
          refine (from_any _ rs8 _ (by omega) HR8.out Hold8.out).mono ?_
          rintro e w9 ⟨v9, rfl, hR9, hb9⟩
          obtain ⟨rs9, he9, hR9⟩ := hR9.recs
          have HS9 := Lib.hid (same_below' HS8.out hb9)
          have HSc9 := Lib.hid (HSc8.out.below hb9)
          have hbel9 := hbel8.trans (hb9.mono hw8)
          have hw9 := Nat.le_trans hw8 hb9.size
          have HE9 : Hid (rs9.map (·.1) = n.rs) := Lib.hid (by rw [he9, He8.out, HSc9.out.rsm])
          have hl9 : rs9.length ≤ 1000 := by have := congrArg List.length he9; rw [List.length_map, List.length_map] at this; omega
          have HR9 := Lib.hid hR9
          obtain ⟨va9, vc9, rfl⟩ := Raw.slice hR9.1
          clear hR9 he9 hb9
          go_wp2
          refine Txt.SegPost.mk (Txt.Ty.Shown.same HS9.out) ?_
          refine Txt.RunPost.mk ?_
          refine Txt.Ty.wpTr_alt ?_ Txt.Ty.wpTr_no
          (try simp only [Txt.pick, List.getElem?_cons_succ, List.getElem?_cons_zero])
          go_wp2_with fail
          obtain ⟨rsm9, hRm9, hem9⟩ := HSc9.out.md.recs
          refine (same_eq _ _ rs9 rsm9 _ (by omega) HR9.out ⟨Raw.to_nil hRm9.1, fun p hp => Raw.to_nil (hRm9.2 p hp)⟩ (HE9.out.trans hem9.symm)).mono ?_
          rintro e w10 ⟨rfl, hb10⟩
          have HS10 := Lib.hid (same_below' HS9.out hb10)
          have hsc10 := HSc9.out.below hb10
          have hbel10 := hbel9.trans (hb10.mono hw9)
          have m3 := box_at hsc10.box (j := 3) rfl
          have HSc10 := Lib.hid hsc10
          clear hb10 hRm9 hem9 hsc10
          go_wp2
          refine Txt.SegPost.mk (Txt.Ty.Shown.same HS10.out) ?_
          (try simp only [Txt.pick, List.getElem?_cons_succ, List.getElem?_cons_zero])
          go_wp2
          refine Txt.RunPost.mk ?_
          refine Txt.Ty.wpTr_alt ?_ Txt.Ty.wpTr_no
          (try simp only [Txt.pick, List.getElem?_cons_succ, List.getElem?_cons_zero])
          go_wp2_with fail
          refine (open_any _ HSc10.out.log).mono ?_
          rintro e w' ⟨rfl, rfl⟩
          go_wp2
          refine Txt.SegPost.mk (Txt.Ty.Shown.same HS10.out) ?_
          (try simp only [Txt.pick, List.getElem?_cons_succ, List.getElem?_cons_zero])
          go_wp2
          refine Txt.RunPost.mk ?_
          refine Txt.Ty.wpTr_done (by rfl) ⟨.head _, Hbl1.out _ (fun b hb => List.mem_cons_of_mem _ hb), .head _, .head _, trivial⟩ ?_
          go_wp2
          go_roundw
          case rel => exact ⟨k + 1, _, _, _, _, _, _, n, hlt, by go_num, HSc10.out, HOk1.out, by omega, hbel10⟩
          case measure => simp [intOf]; omega
    · obtain rfl : k = ss.length := by omega
      go_wp2
      go_ret
      exact ⟨rfl, hbel⟩
end Go.Proofs.Yteefimjgcabpoaa
