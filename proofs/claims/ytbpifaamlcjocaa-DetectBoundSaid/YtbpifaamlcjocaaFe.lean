/- fault: Output -/
import Derived.Test.YtbpifaamlcjocaaFd
namespace Go.Fa
open Go Go.RowKit Go.Bs Go.Cl Go.Rw
/-- an outcome of an execution -/
structure Oc where
  en : Int
  st : Int
  er : Int
  im : List UInt8
  ef : List UInt8
def Oc.fine (o : Oc) : Bool := decide (o.en = 0) && decide (o.er = 0)
def fout (p : FP) (x : Int) (o : Oc) : Oc :=
  if p.ok = false ∨ p.e ≠ x then o
  else if 1 ≤ p.k ∧ p.k ≤ 3 ∧ p.s < o.st then (if p.k = 1 then ⟨1, p.s + 1, 0, [], []⟩ else if p.k = 3 then ⟨3, p.s + 1, 0, [], []⟩ else ⟨2, 4000, 0, [], []⟩)
  else if p.k = 6 ∧ o.fine = true then { o with im := chg o.im p.pl p.m }
  else if p.k = 7 ∧ o.fine = true then { o with ef := chg o.ef p.pl p.m }
  else o
theorem fout_il (p : FP) (x : Int) (o : Oc) : (fout p x o).im.length ≤ o.im.length := by
  unfold fout; repeat' split
  all_goals simp [chg_len]
theorem fout_el (p : FP) (x : Int) (o : Oc) : (fout p x o).ef.length ≤ o.ef.length := by
  unfold fout; repeat' split
  all_goals simp [chg_len]
theorem ok_step {p : FP} (h : p.ok = true) (h1 : 1 ≤ p.k) (h2 : p.k ≤ 3) : 0 ≤ p.s ∧ p.s ≤ 4000 := by
  unfold FP.ok at h
  rw [if_neg (by omega), if_pos h2] at h
  simp only [Bool.and_eq_true, inR, decide_eq_true_eq] at h
  exact h.2.1.2
theorem own_nil (w : World) (base e k : Nat) (hb : base ≤ w.heap.size) : w.ownsRow base e k (.slice none 0 0) 0 [] := ⟨by simp, .inl ⟨rfl, rfl⟩⟩
theorem results_c {P : Program} {fn : Func} {q : Tmp} {ty : TypeId} (h : fn.results = #[.cell q ty]) (tmps : Array Value) (w : World) (g : Nat) (t : TypeId) (cs : Array Value) (fr : Nat × Nat) (d : TypeDesc)
    (hp : tmps.getD q undef = .pointer (some ⟨g, 0, none⟩)) (hg : w.heap[g]? = some (.cells cs t fr))
    (hu : P.underlying ty = some d) (hd : (match d with | .struct _ | .array _ _ => true | _ => false) = true) (hi : (P.info? ty).map (·.size) = some cs.size) :
    (results fn tmps).run P w = .ok (.agg cs) w := by
  have hp' : tmps[q]?.getD undef = .pointer (some ⟨g, 0, none⟩) := by simpa using hp
  simp [results, h, hp', asAddr, run_loadVar_row w g t ty cs fr d hg hu hd hi]
end Go.Fa
namespace Go.Proofs.Ytbpifaamlcjocaa
open Go.RowKit Go.Bs Go.Cl Go.Rw Go.Un Go.Im Go.Fa
set_option maxRecDepth 100000 in
set_option maxHeartbeats 8000000 in
theorem output_any (F : List Nat) (p : FP) (x : Int) (o : Oc) (iv ev : Value) (w : World) (hil : o.im.length ≤ 24000) (hel : o.ef.length ≤ 24000) (hI : Bytes F w iv o.im) (hE : Bytes F w ev o.ef) :
    Calls Try.prog 20 #[.agg p.cs, .int .i64 x, .agg #[.int .i64 o.en, .int .i64 o.st, .int .i64 o.er, iv, ev]] w fun e w' => ∃ iv' ev', e = .returned (.agg #[.int .i64 (fout p x o).en, .int .i64 (fout p x o).st, .int .i64 (fout p x o).er, iv', ev']) ∧
      w'.ownsRow w.heap.size 5 1 iv' (fout p x o).im.length (bytesV (fout p x o).im) ∧ w'.ownsRow w.heap.size 5 1 ev' (fout p x o).ef.length (bytesV (fout p x o).ef) ∧ Below w.heap.size w w' := by
  have HV := Lib.hid (valid_any p)
  obtain ⟨pc, pn, pe, pk, ps, ppl, pm⟩ := p
  obtain ⟨en, st, er, im, ef⟩ := o
  obtain ⟨ia, ic, rfl⟩ := Raw.slice hI
  obtain ⟨ea, ec, rfl⟩ := Raw.slice hE
  have HI := Lib.hid hI; have HE := Lib.hid hE
  clear hI hE
  simp only [FP.cs] at HV ⊢
  obtain ⟨u, hu⟩ : ∃ u, u = ((w.alloc (.cells #[.int .i64 pc, .int .i64 pn, .int .i64 pe, .int .i64 pk, .int .i64 ps, .int .i64 ppl, .int .i64 pm] 52)).alloc (.cells #[.int .i64 en, .int .i64 st, .int .i64 er, .slice ia im.length ic, .slice ea ef.length ec] 49)).alloc (.cells #[.int .i64 0, .int .i64 0, .int .i64 0, .slice none 0 0, .slice none 0 0] 49) := ⟨_, rfl⟩
  have HU := Lib.hid hu
  have HB : Hid (Below w.heap.size w u) := Lib.hid (by rw [hu]; exact b3 _ _ _ _)
  have HPu : Hid (u.heap[w.heap.size]? = some (.cells #[.int .i64 pc, .int .i64 pn, .int .i64 pe, .int .i64 pk, .int .i64 ps, .int .i64 ppl, .int .i64 pm] 52 (0, 0))) := Lib.hid (by rw [hu]; exact (((Below.refl ((w.alloc _).alloc _).heap.size _).alloc (Nat.le_refl _) _).block w.heap.size (by simp; omega)).trans (a2_0 w _ _))
  have HOu : Hid (u.heap[w.heap.size + 1]? = some (.cells #[.int .i64 en, .int .i64 st, .int .i64 er, .slice ia im.length ic, .slice ea ef.length ec] 49 (0, 0))) := Lib.hid (by rw [hu]; exact (((Below.refl ((w.alloc _).alloc _).heap.size _).alloc (Nat.le_refl _) _).block (w.heap.size + 1) (by simp)).trans (a2_1 w _ _))
  have HRu : Hid (u.heap[w.heap.size + 1 + 1]? = some (.cells #[.int .i64 0, .int .i64 0, .int .i64 0, .slice none 0 0, .slice none 0 0] 49 (0, 0))) := Lib.hid (by rw [hu]; exact a3 _ _ _ _)
  have HIu := Lib.hid (Raw.below HI.out HB.out)
  have HEu := Lib.hid (Raw.below HE.out HB.out)
  have hus : u.heap.size = w.heap.size + 3 := by rw [hu]; simp
  clear hu
  go_enter Try.func20, Try.ntmps20
  go_upto_region 1 with (fail)
  rw [← HU.out]
  obtain ⟨P, hP⟩ : ∃ P, P = w.heap.size := ⟨_, rfl⟩
  obtain ⟨O, hO⟩ : ∃ O, O = w.heap.size + 1 := ⟨_, rfl⟩
  obtain ⟨R, hR⟩ : ∃ R, R = w.heap.size + 1 + 1 := ⟨_, rfl⟩
  rw [← hR, ← hO, ← hP]
  rw [← hP] at HPu; rw [← hO] at HOu; rw [← hR] at HRu
  have HUe : Hid (u = ((w.alloc (.cells #[.int .i64 pc, .int .i64 pn, .int .i64 pe, .int .i64 pk, .int .i64 ps, .int .i64 ppl, .int .i64 pm] 52)).alloc (.cells #[.int .i64 en, .int .i64 st, .int .i64 er, .slice ia im.length ic, .slice ea ef.length ec] 49)).alloc (.cells #[.int .i64 0, .int .i64 0, .int .i64 0, .slice none 0 0, .slice none 0 0] 49)) := HU
  have hPO : P < O := by omega
  have hOR : O < R := by omega
  have hRu : R < u.heap.size := by omega
  have hwP : w.heap.size ≤ P := by omega
  have hwu : w.heap.size ≤ u.heap.size := by omega
  clear HU hP hO hR hus
  have o0 := box_at HOu.out (j := 0) rfl
  have o1 := box_at HOu.out (j := 1) rfl
  have o2 := box_at HOu.out (j := 2) rfl
  have o3 := box_at HOu.out (j := 3) rfl
  have o4 := box_at HOu.out (j := 4) rfl
  have hBl : ∀ b ∈ [O], ∃ c e f, u.heap[b]? = some (.cells c e f) := fun q hq => by rw [List.mem_singleton.1 hq]; exact ⟨_, _, _, HOu.out⟩
  have HS0 := Lib.hid (same_start hBl)
  have f3 := box_free HOu.out 3
  have f4 := box_free HOu.out 4
  refine Txt.Ty.wp_tree [O] [4] [7, 9] [1, 4] [0, 1, 3, 4] (.alt [2, 6] (.alt [5] (.alt [7, 8] (.alt [9] (.done) (.no)) (.no)) (.no)) (.no)) (by kernel_rfl) (by kernel_rfl) (by kernel_rfl) (by kernel_rfl) hBl ?_
  clear hBl
  (try simp only [Txt.pick, List.getElem?_cons_succ, List.getElem?_cons_zero])
  go_wp2
  refine Txt.RunPost.mk ?_
  refine Txt.Ty.wpTr_alt ?_ Txt.Ty.wpTr_no
  (try simp only [Txt.pick, List.getElem?_cons_succ, List.getElem?_cons_zero])
  go_wp2_with fail
  refine (clone33 _ (by omega) (Raw.below HIu.out (Below.refl _ u).drew)).mono ?_
  rintro e w1 ⟨v1, rfl, hown1, hb1⟩
  obtain ⟨a1, c1, rfl⟩ := own_slice hown1
  have HO1 : Hid (w1.ownsRow u.heap.size 5 1 (.slice a1 im.length c1) im.length (bytesV im)) := Lib.hid hown1; have HB1 : Hid (Below u.heap.size u w1) := Lib.hid ((Below.refl u.heap.size u).drew.trans hb1)
  have HS1 := Lib.hid (same_below' HS0.out hb1)
  clear hown1 hb1
  go_wp2
  refine Txt.SegPost.mk (Txt.Ty.Shown.same HS1.out) ?_
  (try simp only [Txt.pick, List.getElem?_cons_succ, List.getElem?_cons_zero])
  go_wp2
  refine Txt.RunPost.mk ?_
  refine Txt.Ty.wpTr_alt ?_ Txt.Ty.wpTr_no
  (try simp only [Txt.pick, List.getElem?_cons_succ, List.getElem?_cons_zero])
  go_wp2_with fail
  refine (clone33 _ (by omega) (Raw.below HEu.out HB1.out)).mono ?_
  rintro e w2 ⟨v2, rfl, hown2, hb2⟩
  obtain ⟨a2, c2, rfl⟩ := own_slice hown2
  have HS2 := Lib.hid (same_below' HS1.out hb2)
  have hs1 := HB1.out.size; have hs2 := hb2.size
  have HB2 : Hid (Below u.heap.size u w2) := Lib.hid (HB1.out.trans (hb2.mono hs1))
  have HO2 : Hid (w2.ownsRow u.heap.size 5 1 (.slice a2 ef.length c2) ef.length (bytesV ef)) := Lib.hid (own_base hown2 hs1)
  have HO1b : Hid (w2.ownsRow u.heap.size 5 1 (.slice a1 im.length c1) im.length (bytesV im)) := Lib.hid (own_below HO1.out hb2 (Nat.le_refl _))
  clear hown2 hb2
  have HP2 := Lib.hid ((HB2.out.block P (by omega)).trans HPu.out)
  have HOb2 := Lib.hid ((HB2.out.block O (by omega)).trans HOu.out)
  have HR2 := Lib.hid ((HB2.out.block R (by omega)).trans HRu.out)
  clear o0 o1 o2 o3 o4 f3 f4
  have g3 := box_free HOb2.out 3
  have g4 := box_free HOb2.out 4
  have o3 := box_at HOb2.out (j := 3) rfl
  have o4 := box_at HOb2.out (j := 4) rfl
  go_wp2
  refine Txt.SegPost.mk (Txt.Ty.Shown.same HS2.out) ?_
  (try simp only [Txt.pick, List.getElem?_cons_succ, List.getElem?_cons_zero])
  go_wp2
  refine Txt.RunPost.mk ?_
  refine Txt.Ty.wpTr_alt ?_ Txt.Ty.wpTr_no
  (try simp only [Txt.pick, List.getElem?_cons_succ, List.getElem?_cons_zero])
  go_wp2
  refine Txt.SegPost.mk (Txt.Ty.Shown.last rfl) ?_
  (try simp only [Txt.pick, List.getElem?_cons_succ, List.getElem?_cons_zero])
  go_wp2
  refine Txt.RunPost.mk ?_
  refine Txt.Ty.wpTr_alt ?_ Txt.Ty.wpTr_no
  (try simp only [Txt.pick, List.getElem?_cons_succ, List.getElem?_cons_zero])
  go_wp2
  refine Txt.SegPost.mk (Txt.Ty.Shown.last rfl) ?_
  (try simp only [Txt.pick, List.getElem?_cons_succ, List.getElem?_cons_zero])
  go_wp2
  refine Txt.RunPost.mk ?_
  refine Txt.Ty.wpTr_done (by rfl) ⟨.head _, trivial⟩ ?_
  go_upto_region 2 with (fail)
  obtain ⟨X, hX⟩ : ∃ X, X = (w2.setCell ⟨O, 3, none⟩ (.slice a1 im.length c1)).setCell ⟨O, 4, none⟩ (.slice a2 ef.length c2) := ⟨_, rfl⟩
  rw [← hX]
  obtain ⟨hXO, hXK⟩ := puts_at [(3, .slice a1 im.length c1), (4, .slice a2 ef.length c2)] HOb2.out
  have eX : puts w2 O [(3, .slice a1 im.length c1), (4, .slice a2 ef.length c2)] = X := hX.symm
  have hXz := puts_size [(3, .slice a1 im.length c1), (4, .slice a2 ef.length c2)] w2 O
  rw [eX] at hXO hXK hXz
  have hs2u := HB2.out.size
  have HXO : Hid (X.heap[O]? = some (.cells #[.int .i64 en, .int .i64 st, .int .i64 er, .slice a1 im.length c1, .slice a2 ef.length c2] 49 (0, 0))) := Lib.hid hXO
  have HXP := Lib.hid ((hXK.block P (by omega) (by simp; omega)).trans HP2.out)
  have HXR := Lib.hid ((hXK.block R (by omega) (by simp; omega)).trans HR2.out)
  have lt1 := HO1b.out.lt; have lt2 := HO2.out.lt
  have HX1 : Hid (X.ownsRow u.heap.size 5 1 (.slice a1 im.length c1) im.length (bytesV im)) := Lib.hid (own_keep HO1b.out hXK (fun r hr hm => by have := (lt1 r hr).1; rw [List.mem_singleton] at hm; omega))
  have HX2 : Hid (X.ownsRow u.heap.size 5 1 (.slice a2 ef.length c2) ef.length (bytesV ef)) := Lib.hid (own_keep HO2.out hXK (fun r hr hm => by have := (lt2 r hr).1; rw [List.mem_singleton] at hm; omega))
  have HXB : Hid (Below w.heap.size w X) := Lib.hid ((HB.out.trans (HB2.out.mono HB.out.size)).trans (hXK.below (HB.out.trans (HB2.out.mono HB.out.size)).size (fun f hf => by rw [List.mem_singleton.1 hf]; omega)))
  have hXu : u.heap.size ≤ X.heap.size := by omega
  clear hX eX hXO hXK hXz g3 g4 o3 o4 lt1 lt2
  clear HP2 HOb2 HR2 HO1b HO2 HS2 HB2 HS1 HB1 HO1 HS0
  have p0 := box_at HXP.out (j := 0) rfl
  have p1 := box_at HXP.out (j := 1) rfl
  have p2 := box_at HXP.out (j := 2) rfl
  have p3 := box_at HXP.out (j := 3) rfl
  have p4 := box_at HXP.out (j := 4) rfl
  have p5 := box_at HXP.out (j := 5) rfl
  have p6 := box_at HXP.out (j := 6) rfl
  go_wp2_with fail
  refine (HV.out _).mono ?_
  rintro e w3 ⟨rfl, hb3⟩
  have h3z := hb3.size
  have HO3 := Lib.hid ((hb3.block O (by omega)).trans HXO.out)
  have HP3 := Lib.hid ((hb3.block P (by omega)).trans HXP.out)
  have HR3 := Lib.hid ((hb3.block R (by omega)).trans HXR.out)
  have HI3 := Lib.hid (own_below HX1.out hb3 (Nat.le_refl _))
  have HE3 := Lib.hid (own_below HX2.out hb3 (Nat.le_refl _))
  have HB3 := Lib.hid (HXB.out.trans (hb3.mono HXB.out.size))
  have h3u : u.heap.size ≤ w3.heap.size := by omega
  clear hb3 p0 p1 p2 p3 p4 p5 p6
  clear HXO HXP HXR HX1 HX2 HXB
  have p0 := box_at HP3.out (j := 0) rfl
  have p1 := box_at HP3.out (j := 1) rfl
  have p2 := box_at HP3.out (j := 2) rfl
  have p3 := box_at HP3.out (j := 3) rfl
  have p4 := box_at HP3.out (j := 4) rfl
  have p5 := box_at HP3.out (j := 5) rfl
  have p6 := box_at HP3.out (j := 6) rfl
  have o0 := box_at HO3.out (j := 0) rfl
  have o1 := box_at HO3.out (j := 1) rfl
  have o2 := box_at HO3.out (j := 2) rfl
  have o3 := box_at HO3.out (j := 3) rfl
  have o4 := box_at HO3.out (j := 4) rfl
  have r0 := box_at HR3.out (j := 0) rfl
  have r1 := box_at HR3.out (j := 1) rfl
  have r2 := box_at HR3.out (j := 2) rfl
  have r3 := box_at HR3.out (j := 3) rfl
  have r4 := box_at HR3.out (j := 4) rfl
  have f0 := box_free HR3.out 0
  have f1 := box_free HR3.out 1
  have f2 := box_free HR3.out 2
  have f3 := box_free HR3.out 3
  have f4 := box_free HR3.out 4
  cases hv : FP.ok ⟨pc, pn, pe, pk, ps, ppl, pm⟩
  · have Hv := Lib.hid hv
    clear hv
    go_wp2
    obtain ⟨hR, hK⟩ := puts_at [(0, .int .i64 (en)), (1, .int .i64 (st)), (2, .int .i64 (er)), (3, (.slice a1 im.length c1)), (4, (.slice a2 ef.length c2))] HR3.out
    refine bodyPost_ret (results_c rfl _ _ _ _ _ _ _ rfl hR Try.underlying49 rfl (by kernel_rfl)) rfl ?_
    have hbel := HB3.out.trans (hK.below HB3.out.size (fun f hf => by rw [List.mem_singleton.1 hf]; omega))
    rw [show fout _ _ ⟨en, st, er, im, ef⟩ = ⟨en, st, er, im, ef⟩ from if_pos (.inl Hv.out)]
    refine ⟨_, _, rfl, ?_, ?_, ?_⟩
    · exact own_base (own_keep HI3.out hK (fun r hr hm => by have := ((HI3.out).lt r hr).1; rw [List.mem_singleton] at hm; omega)) hwu
    · exact own_base (own_keep HE3.out hK (fun r hr hm => by have := ((HE3.out).lt r hr).1; rw [List.mem_singleton] at hm; omega)) hwu
    · exact hbel
  · have Hv := Lib.hid hv
    clear hv
    by_cases hx : pe = x
    · subst hx
      go_upto_region 4 with (fail)
      obtain ⟨fb, hfb⟩ : ∃ fb, fb = Oc.fine ⟨en, st, er, im, ef⟩ := ⟨_, rfl⟩
      have Hfb := Lib.hid hfb
      clear hfb
      go_cut [7] from 25 to 33 (fun s wx => s = .bool fb ∧ wx = w3)
      case first =>
        by_cases hen : en = 0
        · by_cases her : er = 0
          · subst hen her
            go_wp2
            go_meet
            case rel => exact ⟨by rw [Hfb.out]; simp [Oc.fine], rfl⟩
          · subst hen
            go_wp2
            go_meet
            case rel => exact ⟨by rw [Hfb.out]; simp [Oc.fine, her], rfl⟩
        · go_wp2
          go_meet
          case rel => exact ⟨by rw [Hfb.out]; simp [Oc.fine, hen], rfl⟩
      case rest =>
        obtain ⟨rfl, hw⟩ := hcut
        rw [hw]
        clear hw wc
        by_cases h1 : 1 ≤ pk ∧ pk ≤ 3 ∧ ps < st
        · obtain ⟨k1, k3, ks⟩ := h1
          obtain ⟨hs0, hs1⟩ := ok_step Hv.out k1 k3
          simp only at hs0 hs1
          by_cases q1 : pk = 1
          · subst q1
            go_wp2
            obtain ⟨hR, hK⟩ := puts_at [(0, .int .i64 (1)), (1, .int .i64 (ps + 1)), (2, .int .i64 (0)), (3, (.slice none 0 0)), (4, (.slice none 0 0))] HR3.out
            refine bodyPost_ret (results_c rfl _ _ _ _ _ _ _ rfl hR Try.underlying49 rfl (by kernel_rfl)) rfl ?_
            have hbel := HB3.out.trans (hK.below HB3.out.size (fun f hf => by rw [List.mem_singleton.1 hf]; omega))
            rw [show fout _ _ ⟨en, st, er, im, ef⟩ = ⟨1, ps + 1, 0, [], []⟩ from by unfold fout; rw [if_neg (by simp [Hv.out]), if_pos (by simp; omega), if_pos rfl]]
            refine ⟨_, _, rfl, ?_, ?_, ?_⟩
            · exact own_nil _ _ _ _ hbel.size
            · exact own_nil _ _ _ _ hbel.size
            · exact hbel
          by_cases q3 : pk = 3
          · subst q3
            go_wp2
            obtain ⟨hR, hK⟩ := puts_at [(0, .int .i64 (3)), (1, .int .i64 (ps + 1)), (2, .int .i64 (0)), (3, (.slice none 0 0)), (4, (.slice none 0 0))] HR3.out
            refine bodyPost_ret (results_c rfl _ _ _ _ _ _ _ rfl hR Try.underlying49 rfl (by kernel_rfl)) rfl ?_
            have hbel := HB3.out.trans (hK.below HB3.out.size (fun f hf => by rw [List.mem_singleton.1 hf]; omega))
            rw [show fout _ _ ⟨en, st, er, im, ef⟩ = ⟨3, ps + 1, 0, [], []⟩ from by unfold fout; rw [if_neg (by simp [Hv.out]), if_pos (by simp; omega), if_neg (by simp), if_pos rfl]]
            refine ⟨_, _, rfl, ?_, ?_, ?_⟩
            · exact own_nil _ _ _ _ hbel.size
            · exact own_nil _ _ _ _ hbel.size
            · exact hbel
          have q2 : pk = 2 := by omega
          subst q2
          go_wp2
          obtain ⟨hR, hK⟩ := puts_at [(0, .int .i64 (2)), (1, .int .i64 (4000)), (2, .int .i64 (0)), (3, (.slice none 0 0)), (4, (.slice none 0 0))] HR3.out
          refine bodyPost_ret (results_c rfl _ _ _ _ _ _ _ rfl hR Try.underlying49 rfl (by kernel_rfl)) rfl ?_
          have hbel := HB3.out.trans (hK.below HB3.out.size (fun f hf => by rw [List.mem_singleton.1 hf]; omega))
          rw [show fout _ _ ⟨en, st, er, im, ef⟩ = ⟨2, 4000, 0, [], []⟩ from by unfold fout; rw [if_neg (by simp [Hv.out]), if_pos (by simp; omega), if_neg (by simp), if_neg (by simp)]]
          refine ⟨_, _, rfl, ?_, ?_, ?_⟩
          · exact own_nil _ _ _ _ hbel.size
          · exact own_nil _ _ _ _ hbel.size
          · exact hbel
        by_cases q6 : pk = 6
        · subst q6
          clear h1
          cases fb
          · have hf : Oc.fine ⟨en, st, er, im, ef⟩ = false := Hfb.out.symm
            go_wp2
            obtain ⟨hR, hK⟩ := puts_at [(0, .int .i64 (en)), (1, .int .i64 (st)), (2, .int .i64 (er)), (3, (.slice a1 im.length c1)), (4, (.slice a2 ef.length c2))] HR3.out
            refine bodyPost_ret (results_c rfl _ _ _ _ _ _ _ rfl hR Try.underlying49 rfl (by kernel_rfl)) rfl ?_
            have hbel := HB3.out.trans (hK.below HB3.out.size (fun f hf => by rw [List.mem_singleton.1 hf]; omega))
            rw [show fout _ _ ⟨en, st, er, im, ef⟩ = ⟨en, st, er, im, ef⟩ from by unfold fout; rw [if_neg (by simp [Hv.out]), if_neg (by simp), if_neg (by simp [hf]), if_neg (by simp)]]
            refine ⟨_, _, rfl, ?_, ?_, ?_⟩
            · exact own_base (own_keep HI3.out hK (fun r hr hm => by have := ((HI3.out).lt r hr).1; rw [List.mem_singleton] at hm; omega)) hwu
            · exact own_base (own_keep HE3.out hK (fun r hr hm => by have := ((HE3.out).lt r hr).1; rw [List.mem_singleton] at hm; omega)) hwu
            · exact hbel
          · have hf : Oc.fine ⟨en, st, er, im, ef⟩ = true := Hfb.out.symm
            go_wp2_with fail
            refine (change_any [] _ im ppl pm w3 (by omega) (Bytes.row HI3.out rfl (fun f hf => by cases hf))).mono ?_
            rintro e w4 ⟨v4, rfl, hown4, hb4⟩
            obtain ⟨a4, c4, rfl⟩ := own_slice hown4
            have h4z := hb4.size
            have hown4' : w4.ownsRow u.heap.size 5 1 (.slice a4 im.length c4) im.length (bytesV (chg im ppl pm)) := own_base hown4 h3u
            have HOb4 := Lib.hid ((hb4.block O (by omega)).trans HO3.out)
            have HR4 := Lib.hid ((hb4.block R (by omega)).trans HR3.out)
            have HOt4 := Lib.hid (own_below HE3.out hb4 (Nat.le_refl _))
            have HB4 := Lib.hid (HB3.out.trans (hb4.mono HB3.out.size))
            have HN4 := Lib.hid hown4'
            clear hb4 hown4 hown4' p0 p1 p2 p3 p4 p5 p6 o0 o1 o2 o3 o4 r0 r1 r2 r3 r4 f0 f1 f2 f3 f4
            have o3 := box_at HOb4.out (j := 3) rfl
            have g3 := box_free HOb4.out 3
            go_upto_region 16 with (fail)
            obtain ⟨X, hX⟩ : ∃ X, X = w4.setCell ⟨O, 3, none⟩ (.slice a4 im.length c4) := ⟨_, rfl⟩
            rw [← hX]
            obtain ⟨hXO, hXK⟩ := puts_at [(3, .slice a4 im.length c4)] HOb4.out
            have eX : puts w4 O [(3, .slice a4 im.length c4)] = X := hX.symm
            have hXz := puts_size [(3, .slice a4 im.length c4)] w4 O
            rw [eX] at hXO hXK hXz
            have HXO : Hid (X.heap[O]? = some (.cells #[.int .i64 en, .int .i64 st, .int .i64 er, .slice a4 im.length c4, .slice a2 ef.length c2] 49 (0, 0))) := Lib.hid hXO
            have HXR := Lib.hid ((hXK.block R (by omega) (by simp; omega)).trans HR4.out)
            have HC4 := Lib.hid (own_keep HN4.out hXK (fun r hr hm => by have := (HN4.out.lt r hr).1; rw [List.mem_singleton] at hm; omega))
            have HD4 := Lib.hid (own_keep HOt4.out hXK (fun r hr hm => by have := (HOt4.out.lt r hr).1; rw [List.mem_singleton] at hm; omega))
            have HXB : Hid (Below w.heap.size w X) := Lib.hid (HB4.out.trans (hXK.below HB4.out.size (fun f hf => by rw [List.mem_singleton.1 hf]; omega)))
            have hXu : u.heap.size ≤ X.heap.size := by omega
            clear hX eX hXO hXK hXz o3 g3 HOb4 HR4 HOt4 HB4 HN4
            have o0 := box_at HXO.out (j := 0) rfl
            have o1 := box_at HXO.out (j := 1) rfl
            have o2 := box_at HXO.out (j := 2) rfl
            have o3 := box_at HXO.out (j := 3) rfl
            have o4 := box_at HXO.out (j := 4) rfl
            have r0 := box_at HXR.out (j := 0) rfl
            have r1 := box_at HXR.out (j := 1) rfl
            have r2 := box_at HXR.out (j := 2) rfl
            have r3 := box_at HXR.out (j := 3) rfl
            have r4 := box_at HXR.out (j := 4) rfl
            have f0 := box_free HXR.out 0
            have f1 := box_free HXR.out 1
            have f2 := box_free HXR.out 2
            have f3 := box_free HXR.out 3
            have f4 := box_free HXR.out 4
            go_wp2
            obtain ⟨hR, hK⟩ := puts_at [(0, .int .i64 (en)), (1, .int .i64 (st)), (2, .int .i64 (er)), (3, (.slice a4 im.length c4)), (4, (.slice a2 ef.length c2))] HXR.out
            refine bodyPost_ret (results_c rfl _ _ _ _ _ _ _ rfl hR Try.underlying49 rfl (by kernel_rfl)) rfl ?_
            have hbel := HXB.out.trans (hK.below HXB.out.size (fun f hf => by rw [List.mem_singleton.1 hf]; omega))
            rw [show fout _ _ ⟨en, st, er, im, ef⟩ = ⟨en, st, er, chg im ppl pm, ef⟩ from by unfold fout; rw [if_neg (by simp [Hv.out]), if_neg (by simp), if_pos ⟨rfl, hf⟩]]
            refine ⟨_, _, rfl, ?_, ?_, ?_⟩
            · have hq := own_base (own_keep HC4.out hK (fun r hr hm => by have := (HC4.out.lt r hr).1; rw [List.mem_singleton] at hm; omega)) hwu
              simp only [chg_len]
              exact hq
            · exact own_base (own_keep HD4.out hK (fun r hr hm => by have := (HD4.out.lt r hr).1; rw [List.mem_singleton] at hm; omega)) hwu
            · exact hbel
        by_cases q7 : pk = 7
        · subst q7
          clear h1
          cases fb
          · have hf : Oc.fine ⟨en, st, er, im, ef⟩ = false := Hfb.out.symm
            go_wp2
            obtain ⟨hR, hK⟩ := puts_at [(0, .int .i64 (en)), (1, .int .i64 (st)), (2, .int .i64 (er)), (3, (.slice a1 im.length c1)), (4, (.slice a2 ef.length c2))] HR3.out
            refine bodyPost_ret (results_c rfl _ _ _ _ _ _ _ rfl hR Try.underlying49 rfl (by kernel_rfl)) rfl ?_
            have hbel := HB3.out.trans (hK.below HB3.out.size (fun f hf => by rw [List.mem_singleton.1 hf]; omega))
            rw [show fout _ _ ⟨en, st, er, im, ef⟩ = ⟨en, st, er, im, ef⟩ from by unfold fout; rw [if_neg (by simp [Hv.out]), if_neg (by simp), if_neg (by simp), if_neg (by simp [hf])]]
            refine ⟨_, _, rfl, ?_, ?_, ?_⟩
            · exact own_base (own_keep HI3.out hK (fun r hr hm => by have := ((HI3.out).lt r hr).1; rw [List.mem_singleton] at hm; omega)) hwu
            · exact own_base (own_keep HE3.out hK (fun r hr hm => by have := ((HE3.out).lt r hr).1; rw [List.mem_singleton] at hm; omega)) hwu
            · exact hbel
          · have hf : Oc.fine ⟨en, st, er, im, ef⟩ = true := Hfb.out.symm
            go_wp2_with fail
            refine (change_any [] _ ef ppl pm w3 (by omega) (Bytes.row HE3.out rfl (fun f hf => by cases hf))).mono ?_
            rintro e w4 ⟨v4, rfl, hown4, hb4⟩
            obtain ⟨a4, c4, rfl⟩ := own_slice hown4
            have h4z := hb4.size
            have hown4' : w4.ownsRow u.heap.size 5 1 (.slice a4 ef.length c4) ef.length (bytesV (chg ef ppl pm)) := own_base hown4 h3u
            have HOb4 := Lib.hid ((hb4.block O (by omega)).trans HO3.out)
            have HR4 := Lib.hid ((hb4.block R (by omega)).trans HR3.out)
            have HOt4 := Lib.hid (own_below HI3.out hb4 (Nat.le_refl _))
            have HB4 := Lib.hid (HB3.out.trans (hb4.mono HB3.out.size))
            have HN4 := Lib.hid hown4'
            clear hb4 hown4 hown4' p0 p1 p2 p3 p4 p5 p6 o0 o1 o2 o3 o4 r0 r1 r2 r3 r4 f0 f1 f2 f3 f4
            have o4 := box_at HOb4.out (j := 4) rfl
            have g4 := box_free HOb4.out 4
            go_upto_region 16 with (fail)
            obtain ⟨X, hX⟩ : ∃ X, X = w4.setCell ⟨O, 4, none⟩ (.slice a4 ef.length c4) := ⟨_, rfl⟩
            rw [← hX]
            obtain ⟨hXO, hXK⟩ := puts_at [(4, .slice a4 ef.length c4)] HOb4.out
            have eX : puts w4 O [(4, .slice a4 ef.length c4)] = X := hX.symm
            have hXz := puts_size [(4, .slice a4 ef.length c4)] w4 O
            rw [eX] at hXO hXK hXz
            have HXO : Hid (X.heap[O]? = some (.cells #[.int .i64 en, .int .i64 st, .int .i64 er, .slice a1 im.length c1, .slice a4 ef.length c4] 49 (0, 0))) := Lib.hid hXO
            have HXR := Lib.hid ((hXK.block R (by omega) (by simp; omega)).trans HR4.out)
            have HC4 := Lib.hid (own_keep HOt4.out hXK (fun r hr hm => by have := (HOt4.out.lt r hr).1; rw [List.mem_singleton] at hm; omega))
            have HD4 := Lib.hid (own_keep HN4.out hXK (fun r hr hm => by have := (HN4.out.lt r hr).1; rw [List.mem_singleton] at hm; omega))
            have HXB : Hid (Below w.heap.size w X) := Lib.hid (HB4.out.trans (hXK.below HB4.out.size (fun f hf => by rw [List.mem_singleton.1 hf]; omega)))
            have hXu : u.heap.size ≤ X.heap.size := by omega
            clear hX eX hXO hXK hXz o4 g4 HOb4 HR4 HOt4 HB4 HN4
            have o0 := box_at HXO.out (j := 0) rfl
            have o1 := box_at HXO.out (j := 1) rfl
            have o2 := box_at HXO.out (j := 2) rfl
            have o3 := box_at HXO.out (j := 3) rfl
            have o4 := box_at HXO.out (j := 4) rfl
            have r0 := box_at HXR.out (j := 0) rfl
            have r1 := box_at HXR.out (j := 1) rfl
            have r2 := box_at HXR.out (j := 2) rfl
            have r3 := box_at HXR.out (j := 3) rfl
            have r4 := box_at HXR.out (j := 4) rfl
            have f0 := box_free HXR.out 0
            have f1 := box_free HXR.out 1
            have f2 := box_free HXR.out 2
            have f3 := box_free HXR.out 3
            have f4 := box_free HXR.out 4
            go_wp2
            obtain ⟨hR, hK⟩ := puts_at [(0, .int .i64 (en)), (1, .int .i64 (st)), (2, .int .i64 (er)), (3, (.slice a1 im.length c1)), (4, (.slice a4 ef.length c4))] HXR.out
            refine bodyPost_ret (results_c rfl _ _ _ _ _ _ _ rfl hR Try.underlying49 rfl (by kernel_rfl)) rfl ?_
            have hbel := HXB.out.trans (hK.below HXB.out.size (fun f hf => by rw [List.mem_singleton.1 hf]; omega))
            rw [show fout _ _ ⟨en, st, er, im, ef⟩ = ⟨en, st, er, im, chg ef ppl pm⟩ from by unfold fout; rw [if_neg (by simp [Hv.out]), if_neg (by simp), if_neg (by simp), if_pos ⟨rfl, hf⟩]]
            refine ⟨_, _, rfl, ?_, ?_, ?_⟩
            · exact own_base (own_keep HC4.out hK (fun r hr hm => by have := (HC4.out.lt r hr).1; rw [List.mem_singleton] at hm; omega)) hwu
            · have hq := own_base (own_keep HD4.out hK (fun r hr hm => by have := (HD4.out.lt r hr).1; rw [List.mem_singleton] at hm; omega)) hwu
              simp only [chg_len]
              exact hq
            · exact hbel
        have q6b : (pk == 6) = false := by simpa using q6
        have q7b : (pk == 7) = false := by simpa using q7
        rcases (by omega : pk < 1 ∨ (1 ≤ pk ∧ 3 < pk) ∨ (1 ≤ pk ∧ pk ≤ 3 ∧ st ≤ ps)) with h | ⟨h, h'⟩ | ⟨h, h', h''⟩
        · clear h1
          go_wp2
          all_goals
            obtain ⟨hR, hK⟩ := puts_at [(0, .int .i64 (en)), (1, .int .i64 (st)), (2, .int .i64 (er)), (3, (.slice a1 im.length c1)), (4, (.slice a2 ef.length c2))] HR3.out
            refine bodyPost_ret (results_c rfl _ _ _ _ _ _ _ rfl hR Try.underlying49 rfl (by kernel_rfl)) rfl ?_
            have hbel := HB3.out.trans (hK.below HB3.out.size (fun f hf => by rw [List.mem_singleton.1 hf]; omega))
            rw [show fout _ _ ⟨en, st, er, im, ef⟩ = ⟨en, st, er, im, ef⟩ from by unfold fout; rw [if_neg (by simp [Hv.out]), if_neg (by simp; omega), if_neg (by simp; omega), if_neg (by simp; omega)]]
            refine ⟨_, _, rfl, ?_, ?_, ?_⟩
            · exact own_base (own_keep HI3.out hK (fun r hr hm => by have := ((HI3.out).lt r hr).1; rw [List.mem_singleton] at hm; omega)) hwu
            · exact own_base (own_keep HE3.out hK (fun r hr hm => by have := ((HE3.out).lt r hr).1; rw [List.mem_singleton] at hm; omega)) hwu
            · exact hbel
        · clear h1
          go_wp2
          all_goals
            obtain ⟨hR, hK⟩ := puts_at [(0, .int .i64 (en)), (1, .int .i64 (st)), (2, .int .i64 (er)), (3, (.slice a1 im.length c1)), (4, (.slice a2 ef.length c2))] HR3.out
            refine bodyPost_ret (results_c rfl _ _ _ _ _ _ _ rfl hR Try.underlying49 rfl (by kernel_rfl)) rfl ?_
            have hbel := HB3.out.trans (hK.below HB3.out.size (fun f hf => by rw [List.mem_singleton.1 hf]; omega))
            rw [show fout _ _ ⟨en, st, er, im, ef⟩ = ⟨en, st, er, im, ef⟩ from by unfold fout; rw [if_neg (by simp [Hv.out]), if_neg (by simp; omega), if_neg (by simp; omega), if_neg (by simp; omega)]]
            refine ⟨_, _, rfl, ?_, ?_, ?_⟩
            · exact own_base (own_keep HI3.out hK (fun r hr hm => by have := ((HI3.out).lt r hr).1; rw [List.mem_singleton] at hm; omega)) hwu
            · exact own_base (own_keep HE3.out hK (fun r hr hm => by have := ((HE3.out).lt r hr).1; rw [List.mem_singleton] at hm; omega)) hwu
            · exact hbel
        · clear h1
          go_wp2
          all_goals
            obtain ⟨hR, hK⟩ := puts_at [(0, .int .i64 (en)), (1, .int .i64 (st)), (2, .int .i64 (er)), (3, (.slice a1 im.length c1)), (4, (.slice a2 ef.length c2))] HR3.out
            refine bodyPost_ret (results_c rfl _ _ _ _ _ _ _ rfl hR Try.underlying49 rfl (by kernel_rfl)) rfl ?_
            have hbel := HB3.out.trans (hK.below HB3.out.size (fun f hf => by rw [List.mem_singleton.1 hf]; omega))
            rw [show fout _ _ ⟨en, st, er, im, ef⟩ = ⟨en, st, er, im, ef⟩ from by unfold fout; rw [if_neg (by simp [Hv.out]), if_neg (by simp; omega), if_neg (by simp; omega), if_neg (by simp; omega)]]
            refine ⟨_, _, rfl, ?_, ?_, ?_⟩
            · exact own_base (own_keep HI3.out hK (fun r hr hm => by have := ((HI3.out).lt r hr).1; rw [List.mem_singleton] at hm; omega)) hwu
            · exact own_base (own_keep HE3.out hK (fun r hr hm => by have := ((HE3.out).lt r hr).1; rw [List.mem_singleton] at hm; omega)) hwu
            · exact hbel
    · have Hx := Lib.hid hx
      go_wp2
      obtain ⟨hR, hK⟩ := puts_at [(0, .int .i64 (en)), (1, .int .i64 (st)), (2, .int .i64 (er)), (3, (.slice a1 im.length c1)), (4, (.slice a2 ef.length c2))] HR3.out
      refine bodyPost_ret (results_c rfl _ _ _ _ _ _ _ rfl hR Try.underlying49 rfl (by kernel_rfl)) rfl ?_
      have hbel := HB3.out.trans (hK.below HB3.out.size (fun f hf => by rw [List.mem_singleton.1 hf]; omega))
      rw [show fout _ _ ⟨en, st, er, im, ef⟩ = ⟨en, st, er, im, ef⟩ from if_pos (.inr Hx.out)]
      refine ⟨_, _, rfl, ?_, ?_, ?_⟩
      · exact own_base (own_keep HI3.out hK (fun r hr hm => by have := ((HI3.out).lt r hr).1; rw [List.mem_singleton] at hm; omega)) hwu
      · exact own_base (own_keep HE3.out hK (fun r hr hm => by have := ((HE3.out).lt r hr).1; rw [List.mem_singleton] at hm; omega)) hwu
      · exact hbel
end Go.Proofs.Ytbpifaamlcjocaa
