/- Store: Step -/
import Derived.Test.YtnbngidelpodkaaPc
namespace Go.Proofs.Ytnbngidelpodkaa
open Go.RowKit Go.Bs Go.Cl Go.Rw Go.Un Go.Im
variable {w w' : World} {base g h : Nat} {iv rv imv nxv chv : Value} {rz : Bool} {rs : List (Rec × Value)} {s : Ps}
/-- behind a call on the log, some cells of the store were set -/
theorem st_after {w2 X : World} {s' : Ps} {rs' : List Rec} {imv' nxv' chv' : Value} {rz' : Bool} (H : StB w base g h iv rv imv nxv chv rz rs s) (hP : StepP w base h iv rv rs s'.work rs' s'.inst w2)
    (hX : X.heap[g]? = some (.cells #[.pointer (some ⟨h, 0, none⟩), imv', nxv', chv', .bool rz', .int .i64 s'.done, .int .i64 s'.steps, .int .i64 s'.ver, .int .u64 (sumOf s'.image)] 66 (0, 0))) (hk : Keep [g] w2 X) (good' : s'.Good)
    (hi' : Bytes (SF base g h iv rv) w imv' s'.image) (hx' : Bytes (SF base g h iv rv) w nxv' s'.next) (hch' : ChR (SF base g h iv rv) w chv' s'.chs)
    (ok' : rs'.all Rec.ok = true) (tk' : takeAll s'.work rs' = s'.image) (rl' : rs'.length = s'.done) (rzv' : s'.inst = true → rz' = rzb s'.image s'.next) : StQ w base g h iv rv s' X := by
  obtain ⟨iv', rv', rs2, rfl, hL, hk2, hF, hfr⟩ := hP
  have ing : ∀ f ∈ [g], f ∈ g :: LogF h iv rv := fun f hf => by rw [List.mem_singleton.1 hf]; simp
  have hlt := H.lt
  have hn' : g ∉ LogF h iv' rv' := fun hm => by
    rcases hF g hm with h1 | h1
    · exact H.hn h1
    · omega
  have hr2 : ∀ p ∈ rs2, Bytes [g] w2 p.2 p.1.old := hfr [g] (fun f hf => by rw [List.mem_singleton.1 hf]; exact hlt) H.hr
  have kAll : Keep (g :: LogF h iv rv) w X := (hk2.mono (fun f hf => .inl (List.mem_cons_of_mem _ hf))).trans hk (fun f hf => .inl (ing f hf))
  have hF' : ∀ f ∈ SF base g h iv' rv', f ∈ SF base g h iv rv ∨ w.heap.size ≤ f := fun f hf => by
    rcases List.mem_append.1 hf with hf | hf
    · rcases List.mem_cons.1 hf with rfl | hf
      · exact .inl (mem_sf (by simp))
      · exact (hF f hf).imp (fun h => mem_sf (List.mem_cons_of_mem _ h)) id
    · exact .inl (List.mem_append_right _ hf)
  refine ⟨iv', rv', ⟨imv', nxv', chv', rz', rs2, { good := good', hg := H.hg, hc := hX, hl := LogAt.beside hL hk hn' hr2, hn := hn', hi := Raw.keep hi' kAll (fun f hf => .inl (mem_sf hf)) hF', hx := Raw.keep hx' kAll (fun f hf => .inl (mem_sf hf)) hF', hch := ChR.keepc hch' kAll (fun f hf => .inl (mem_sf hf)) hF', hr := fun p hp => ?_, ok := fun p hp => List.all_eq_true.1 ok' _ (List.mem_map_of_mem hp), tk := tk', rl := by simpa using rl', rzv := rzv' }⟩, kAll, hF⟩
  have hb' := hL.hb p hp
  exact Raw.keep (F' := [g]) (hr2 p hp) hk (fun f hf => .inl hf) (fun f hf => .inl hf)
theorem StB.oks (H : StB w base g h iv rv imv nxv chv rz rs s) : (rs.map (·.1)).all Rec.ok = true := by
  rw [List.all_eq_true]
  intro x hx
  obtain ⟨p, hp, rfl⟩ := List.mem_map.1 hx
  exact H.ok p hp
theorem writeP_step {rs : List (Rec × Value)} {img : List UInt8} {off : Nat} {b : List UInt8} {e : Ending} (hP : WriteP w base h iv rv img rs off b e w') :
    StepP w base h iv rv rs (Un.written img off b) (rs.map (·.1) ++ [(⟨off, img.length, (img.take (off + b.length)).drop off⟩ : Rec)]) true w' := by
  obtain ⟨_, rv', qv, h1, h2, h3, h4⟩ := hP
  exact ⟨iv, rv', _, by simp, h1, h2, h3, h4⟩
/-- the state after a step -/
def stepped (s : Ps) : Ps := { s with done := s.done + 1 }
theorem stepped_good (hg : s.Good) (hi : s.inst = true) (hd : s.done < s.steps) : (stepped s).Good :=
  ⟨hg.il, hg.nl, hg.vl, hd, fun h => by rw [show (stepped s).inst = s.inst from rfl, hi] at h; cases h⟩
/-- a resizing -/
theorem stepped_size {img : List UInt8} {l : List Rec} (hi : s.inst = true) (hz : rzb s.image s.next = true) (hd : s.done = 0) (hw : s.work = img) (hwl : img.length ≤ 24000) (hok : l.all Rec.ok = true) (htk : takeAll img l = s.image) :
    (stepped s).work = sized img s.next.length ∧ (l ++ [(⟨((min s.next.length img.length : Nat) : Int), img.length, img.drop (min s.next.length img.length)⟩ : Rec)]).all Rec.ok = true ∧ takeAll (sized img s.next.length) (l ++ [(⟨((min s.next.length img.length : Nat) : Int), img.length, img.drop (min s.next.length img.length)⟩ : Rec)]) = s.image := by
  have hu := undoes_resize (img := img) (n := s.next.length) hwl
  refine ⟨?_, ?_, ?_⟩
  · have e : (stepped s).work = wk s.image s.next (s.done + 1) := by simp [Ps.work, stepped, hi]
    have e2 : s.work = wk s.image s.next s.done := by simp [Ps.work, hi]
    rw [e, hd, wk_one hz, ← hw, e2, hd]
  · simp [hok, hu.1]
  · rw [takeAll_snoc, hu.2, htk]
theorem stepped_page {img : List UInt8} {l : List Rec} {c : Nat × List UInt8} (hi : s.inst = true) (hz : rzn s.image s.next ≤ s.done) (hc : (dif s.image s.next)[s.done - rzn s.image s.next]? = some c) (hw : s.work = img) (hwl : img.length ≤ 24000) (hok : l.all Rec.ok = true) (htk : takeAll img l = s.image) :
    c.1 * 128 + c.2.length ≤ img.length ∧ (stepped s).work = Un.written img (c.1 * 128) c.2 ∧ (l ++ [(⟨((c.1 * 128 : Nat) : Int), img.length, (img.take (c.1 * 128 + c.2.length)).drop (c.1 * 128)⟩ : Rec)]).all Rec.ok = true ∧ takeAll (Un.written img (c.1 * 128) c.2) (l ++ [(⟨((c.1 * 128 : Nat) : Int), img.length, (img.take (c.1 * 128 + c.2.length)).drop (c.1 * 128)⟩ : Rec)]) = s.image := by
  have e : (stepped s).work = wk s.image s.next (s.done + 1) := by simp [Ps.work, stepped, hi]
  have e2 : s.work = wk s.image s.next s.done := by simp [Ps.work, hi]
  obtain ⟨h1, h2⟩ := wk_step hz hc
  rw [← e2, hw] at h1 h2
  have hu := undoes_write (img := img) (m := c.1 * 128) (d := c.2) hwl h2
  refine ⟨h2, by rw [e, h1], ?_, ?_⟩
  · simp [hok]; simpa using hu.1
  · rw [takeAll_snoc, hu.2, htk]

theorem StQ_drew {X : World} (H : StQ w.drew base g h iv rv s X) : StQ w base g h iv rv s X := by
  obtain ⟨a, b, h1, h2, h3⟩ := H
  exact ⟨a, b, h1, ⟨h2.os, h2.tape, h2.output, h2.size, h2.block⟩, h3⟩
theorem StQ_drewR {X : World} (H : StQ w base g h iv rv s X) : StQ w base g h iv rv s X.drew := by
  obtain ⟨a, b, h1, h2, h3⟩ := H
  exact ⟨a, b, h1.below (Below.refl _ X).drew, h2.drew, h3⟩
theorem stepP_cell {w2 : World} {img : List UInt8} {rs : List (Rec × Value)} {l : List Rec} {o : Bool} {A : Obj} (hP : StepP w base h iv rv rs img l o w2) (hn : g ∉ LogF h iv rv) (hA : w.heap[g]? = some A) : w2.heap[g]? = some A := by
  obtain ⟨_, _, _, _, _, hk, _⟩ := hP
  exact (hk.block g (Array.getElem?_eq_some_iff.1 hA).1 hn).trans hA
set_option maxRecDepth 100000 in
set_option maxHeartbeats 2000000 in
theorem ststep_no {base g h : Nat} {iv rv : Value} {s : Ps} (w : World) (H : StAt w base g h iv rv s) (hno : s.inst = false ∨ s.done = s.steps) :
    Calls Try.prog 13 #[.pointer (some ⟨g, 0, none⟩)] w fun e w' => e = .returned (.tuple #[.int .i64 0, .int .i64 7]) ∧ StQ w base g h iv rv s w' := by
  have HA := Lib.hid H
  have HI := Lib.hid (inst_any w.drew (H.below (Below.refl _ w).drew))
  obtain ⟨imv, nxv, chv, rz, rs, H⟩ := H
  have c5 := box_at H.hc (j := 5) rfl
  have c6 := box_at H.hc (j := 6) rfl
  obtain ⟨dn, hdn⟩ : ∃ n, n = s.done := ⟨_, rfl⟩
  obtain ⟨st, hst⟩ : ∃ n, n = s.steps := ⟨_, rfl⟩
  obtain ⟨o, ho⟩ : ∃ o, o = s.inst := ⟨_, rfl⟩
  rw [← hdn] at c5 hno
  rw [← hst] at c6 hno
  rw [← ho] at HI hno
  have hdl : dn ≤ st := by rw [hdn, hst]; exact H.good.dl
  clear H ho hdn hst
  cases o
  · clear hno
    go_enter Try.func13, Try.ntmps13
    go_upto_region 1 with (fail)
    refine Txt.Ty.wp_tree [] [] [] [7, 11] [0] (.alt [1, 2, 3, 4, 5, 6, 7, 8, 9, 10, 11, 12, 13] (.done) (.no)) (by kernel_rfl) (by kernel_rfl) (by kernel_rfl) (by kernel_rfl) (fun _ h => by cases h) ?_
    (try simp only [Txt.pick, List.getElem?_cons_succ, List.getElem?_cons_zero])
    go_wp2
    refine Txt.RunPost.mk ?_
    refine Txt.Ty.wpTr_alt ?_ Txt.Ty.wpTr_no
    (try simp only [Txt.pick, List.getElem?_cons_succ, List.getElem?_cons_zero])
    go_wp2_with fail
    refine HI.out.mono ?_
    rintro e w' ⟨rfl, rfl⟩
    go_wp2
    refine Txt.SegPost.mk Txt.Ty.Shown.none ?_
    (try simp only [Txt.pick, List.getElem?_cons_succ, List.getElem?_cons_zero])
    go_wp2
    refine Txt.RunPost.mk ?_
    refine Txt.Ty.wpTr_done (by rfl) trivial ?_
    go_wp2
    go_ret2
    exact ⟨rfl, StQ.same HA.out (Below.refl _ w).drew⟩
  · have hq : dn = st := by rcases hno with h | h; cases h; exact h
    subst hq
    clear hno
    go_enter Try.func13, Try.ntmps13
    go_upto_region 1 with (fail)
    refine Txt.Ty.wp_tree [] [] [] [7, 11] [0] (.alt [1, 2, 3, 4, 5, 6, 7, 8, 9, 10, 11, 12, 13] (.done) (.no)) (by kernel_rfl) (by kernel_rfl) (by kernel_rfl) (by kernel_rfl) (fun _ h => by cases h) ?_
    (try simp only [Txt.pick, List.getElem?_cons_succ, List.getElem?_cons_zero])
    go_wp2
    refine Txt.RunPost.mk ?_
    refine Txt.Ty.wpTr_alt ?_ Txt.Ty.wpTr_no
    (try simp only [Txt.pick, List.getElem?_cons_succ, List.getElem?_cons_zero])
    go_wp2_with fail
    refine HI.out.mono ?_
    rintro e w' ⟨rfl, rfl⟩
    go_wp2
    refine Txt.SegPost.mk Txt.Ty.Shown.none ?_
    (try simp only [Txt.pick, List.getElem?_cons_succ, List.getElem?_cons_zero])
    go_wp2
    refine Txt.RunPost.mk ?_
    refine Txt.Ty.wpTr_done (by rfl) trivial ?_
    go_wp2
    go_ret2
    exact ⟨rfl, StQ.same HA.out (Below.refl _ w).drew⟩
set_option maxRecDepth 100000 in
set_option maxHeartbeats 4000000 in
theorem ststep_size {base g h : Nat} {iv rv : Value} {s : Ps} (w : World) (H : StAt w base g h iv rv s) (hi : s.inst = true) (hd : s.done < s.steps) (hz : rzb s.image s.next = true) (hd0 : s.done = 0) :
    Calls Try.prog 13 #[.pointer (some ⟨g, 0, none⟩)] w fun e w' => e = .returned (.tuple #[.int .i64 ((s.steps - (s.done + 1) : Nat)), .int .i64 0]) ∧ StQ w base g h iv rv (stepped s) w' := by
  have HI := Lib.hid (inst_any w.drew (H.below (Below.refl _ w).drew))
  rw [hi] at HI
  obtain ⟨imv, nxv, chv, rz, rs, H⟩ := H
  have hrz : rz = true := (H.rzv hi).trans hz
  subst hrz
  obtain ⟨na, nc, rfl⟩ := Raw.slice H.hx
  have hnl : s.next.length ≤ 24000 := H.good.nl
  obtain ⟨img, himg⟩ : ∃ m, s.work = m := ⟨_, rfl⟩
  have hwl : img.length ≤ 24000 := by rw [← himg]; exact H.good.wl
  have hok := StB.oks H
  obtain ⟨k1, k2, k3⟩ := stepped_size hi hz hd0 himg hwl hok (by rw [← himg]; exact H.tk)
  have hl := H.hl
  rw [himg, hi] at hl
  have HP := Lib.hid (resize_yes s.next.length w.drew.drew (hl.below (Below.refl _ w).drew.drew) hwl (by rw [H.rl]; have := H.good.sl; have := H.good.dl; omega) (by exact H.bs) hnl)
  have HC := Lib.hid H.hc
  rw [hd0] at HC
  obtain ⟨st, hst⟩ : ∃ n, n = s.steps := ⟨_, rfl⟩
  have hst1 : 0 < st := by rw [hst]; omega
  have hst2 : st ≤ 1000 := by rw [hst]; exact H.good.sl
  rw [← hst] at HC
  have hsd : ((0 : Int) == (st : Int)) = false := by simp; omega
  have c0 := box_at HC.out (j := 0) rfl
  have c2 := box_at HC.out (j := 2) rfl
  have c4 := box_at HC.out (j := 4) rfl
  have c5 := box_at HC.out (j := 5) rfl
  have c6 := box_at HC.out (j := 6) rfl
  have HS := Lib.hid H
  have HK := Lib.hid (And.intro k1 (And.intro k2 k3))
  have HG := Lib.hid (show g ≠ h from fun e => H.hn (by simp [LogF, e]))
  have HST := Lib.hid hst; have HIN := Lib.hid hi; have HDN := Lib.hid hd; have HD0 := Lib.hid hd0; have HZ := Lib.hid hz; have HIMG := Lib.hid himg
  obtain ⟨nl, hnl'⟩ : ∃ n, n = s.next.length := ⟨_, rfl⟩
  rw [← hst, hd0, Nat.zero_add]
  clear H hl k1 k2 k3 hok hst hi hd hd0 hz himg
  go_enter Try.func13, Try.ntmps13
  go_upto_region 1 with (fail)
  refine Txt.Ty.wp_tree [] [] [] [7, 11] [0] (.alt [1, 2, 3, 4, 5, 6, 7, 8, 9, 10, 11, 12, 13] (.done) (.no)) (by kernel_rfl) (by kernel_rfl) (by kernel_rfl) (by kernel_rfl) (fun _ h => by cases h) ?_
  (try simp only [Txt.pick, List.getElem?_cons_succ, List.getElem?_cons_zero])
  go_wp2
  refine Txt.RunPost.mk ?_
  refine Txt.Ty.wpTr_alt ?_ Txt.Ty.wpTr_no
  (try simp only [Txt.pick, List.getElem?_cons_succ, List.getElem?_cons_zero])
  go_wp2_with fail
  refine HI.out.mono ?_
  rintro e w' ⟨rfl, rfl⟩
  go_wp2
  refine Txt.SegPost.mk Txt.Ty.Shown.none ?_
  (try simp only [Txt.pick, List.getElem?_cons_succ, List.getElem?_cons_zero])
  go_wp2
  refine Txt.RunPost.mk ?_
  refine Txt.Ty.wpTr_done (by rfl) trivial ?_
  go_upto_region 7 with (fail)
  refine Txt.Ty.wp_tree [] [] [] [3, 7] [0, 1, 2, 3, 4, 5, 6, 7, 8] (.alt [9] (.done) (.no)) (by kernel_rfl) (by kernel_rfl) (by kernel_rfl) (by kernel_rfl) (fun _ h => by cases h) ?_
  (try simp only [Txt.pick, List.getElem?_cons_succ, List.getElem?_cons_zero])
  go_wp2
  refine Txt.RunPost.mk ?_
  refine Txt.Ty.wpTr_alt ?_ Txt.Ty.wpTr_no
  (try simp only [Txt.pick, List.getElem?_cons_succ, List.getElem?_cons_zero])
  go_wp2_with fail
  refine HP.out.mono ?_
  rintro e w2 ⟨rfl, hP⟩
  have hc2 := stepP_cell hP HS.out.hn HC.out
  have HC2 := Lib.hid hc2
  have d5 := box_at hc2 (j := 5) rfl
  have e5 := box_free hc2 5
  have hPP := Lib.hid hP
  clear hc2 hP
  go_wp2
  refine Txt.SegPost.mk Txt.Ty.Shown.none ?_
  (try simp only [Txt.pick, List.getElem?_cons_succ, List.getElem?_cons_zero])
  go_wp2
  refine Txt.RunPost.mk ?_
  refine Txt.Ty.wpTr_done (by rfl) trivial ?_
  go_upto_region 10 with (fail)
  obtain ⟨hX, hkX⟩ := puts_at [(5, .int .i64 1)] HC2.out
  obtain ⟨X, hXe⟩ : ∃ X, X = w2.setCell ⟨g, 5, none⟩ (.int .i64 1) := ⟨_, rfl⟩
  rw [← hXe]
  have eX : puts w2 g [(5, .int .i64 1)] = X := hXe.symm
  rw [eX] at hX hkX
  have c5' := box_at hX (j := 5) rfl
  have c6' := box_at hX (j := 6) rfl
  have HX := Lib.hid hX; have HKX := Lib.hid hkX
  clear hX hkX hXe eX d5 e5
  refine Txt.Ty.wp_tree [] [] [] [3, 7] [0, 1, 2, 3, 4, 5, 6, 7, 8, 9, 10] (.done) (by kernel_rfl) (by kernel_rfl) (by kernel_rfl) (by kernel_rfl) (fun _ h => by cases h) ?_
  (try simp only [Txt.pick, List.getElem?_cons_succ, List.getElem?_cons_zero])
  go_wp2
  refine Txt.RunPost.mk ?_
  refine Txt.Ty.wpTr_done (by rfl) trivial ?_
  go_wp2
  go_ret2
  have hfin : StQ w.drew.drew base g h iv rv (stepped s) X := by
    have hI := HIN.out
    have hD : (stepped s).done = 1 := by simp [stepped, HD0.out]
    have hSt : (stepped s).steps = st := by rw [HST.out]; rfl
    have hSB := HS.out.below (Below.refl _ w).drew.drew
    refine st_after hSB (s' := stepped s) (by rw [HK.out.1]; rw [show (stepped s).inst = true from hI]; exact hPP.out) (by rw [hD, hSt]; exact HX.out) HKX.out (stepped_good HS.out.good hI HDN.out) hSB.hi hSB.hx hSB.hch HK.out.2.1 (by rw [HK.out.1]; exact HK.out.2.2) ?_ (fun _ => HZ.out.symm)
    rw [List.length_append, List.length_map, HS.out.rl, HD0.out, hD]; rfl
  have e : (st : Int) - 1 = ((st - 1 : Nat) : Int) := by omega
  exact ⟨by rw [← e]; rfl, StQ_drewR (StQ_drew (StQ_drew hfin))⟩
set_option maxRecDepth 100000 in
set_option maxHeartbeats 4000000 in
theorem ststep_page {base g h : Nat} {iv rv : Value} {s : Ps} (w : World) (H : StAt w base g h iv rv s) (hi : s.inst = true) (hd : s.done < s.steps) (hz : rzn s.image s.next ≤ s.done) :
    Calls Try.prog 13 #[.pointer (some ⟨g, 0, none⟩)] w fun e w' => e = .returned (.tuple #[.int .i64 ((s.steps - (s.done + 1) : Nat)), .int .i64 0]) ∧ StQ w base g h iv rv (stepped s) w' := by
  have HI := Lib.hid (inst_any w.drew (H.below (Below.refl _ w).drew))
  rw [hi] at HI
  obtain ⟨imv, nxv, chv, rz, rs, H⟩ := H
  have hrz := H.rzv hi
  obtain ⟨img, himg⟩ : ∃ m, s.work = m := ⟨_, rfl⟩
  have hwl : img.length ≤ 24000 := by rw [← himg]; exact H.good.wl
  have hok := StB.oks H
  have hst : s.steps = (dif s.image s.next).length + rzn s.image s.next := by simp [Ps.steps, hi, tot]
  obtain ⟨k, hk⟩ : ∃ k, k = s.done - rzn s.image s.next := ⟨_, rfl⟩
  have hkl : k < (dif s.image s.next).length := by omega
  obtain ⟨c, hc⟩ : ∃ c, (dif s.image s.next)[k]? = some c := ⟨_, List.getElem?_eq_getElem hkl⟩
  obtain ⟨k0, k1, k2, k3⟩ := stepped_page hi hz (by rw [← hk]; exact hc) himg hwl hok (by rw [← himg]; exact H.tk)
  have hl := H.hl
  rw [himg, hi] at hl
  have hch := H.hch
  have hchs : s.chs = dif s.image s.next := by simp [Ps.chs, hi]
  rw [hchs] at hch
  obtain ⟨cs, hcs, hraw, hby⟩ := hch
  have hcl : cs.length = (dif s.image s.next).length := by rw [← hcs, List.length_map]
  obtain ⟨q, hq⟩ : ∃ q, cs[k]? = some q := ⟨_, List.getElem?_eq_getElem (by omega)⟩
  obtain ⟨qc, qv⟩ := q
  have hqc : qc = c := by
    have h1 : (cs.map (·.1))[k]? = some c := by rw [hcs]; exact hc
    rw [List.getElem?_map, hq] at h1; simpa using h1
  subst hqc
  have hqb := hby _ (List.mem_of_getElem? hq)
  simp only at hqb
  obtain ⟨da, dc, rfl⟩ := Raw.slice hqb
  have HP := Lib.hid (write_yes (.slice da qc.2.length dc) qc.2 (qc.1 * 128) w.drew.drew (hl.below (Below.refl _ w).drew.drew) (Raw.keep (F' := LogF h iv rv) (w' := w.drew.drew) hqb (Keep.of_below' (F := []) (Below.refl _ w).drew.drew) (by simp) (fun f hf => .inl (mem_sf (List.mem_cons_of_mem _ hf)))) hwl (by rw [H.rl]; have := H.good.sl; have := H.good.dl; omega) (by exact H.bs) k0)
  rcases Raw.cases hraw with ⟨h0, _⟩ | ⟨_, bb, off, cap, hv', hcc, hcm, _, _, hcell⟩
  · omega
  subst hv'
  have hflat : ∀ j u, (encC (qc, .slice da qc.2.length dc))[j]? = some u → (cs.flatMap encC)[k * 2 + j]? = some u := fun j u hj => by
    rw [flat_get encC encC_len cs k j _ hq (by have := (List.getElem?_eq_some_iff.1 hj).1; simpa [encC] using this)]; exact hj
  have e0 : w.cell? ⟨bb, off + k * 2, none⟩ = some (.int .i64 qc.1) := hcell _ _ (hflat 0 (.int .i64 qc.1) rfl)
  have e1 : w.cell? ⟨bb, off + k * 2 + 1, none⟩ = some (.slice da qc.2.length dc) := by rw [Nat.add_assoc]; exact hcell _ _ (hflat 1 (.slice da qc.2.length dc) rfl)
  have HCE := Lib.hid hc; have HRB := Lib.hid hrz
  have HC := Lib.hid H.hc
  obtain ⟨st, hst'⟩ : ∃ n, n = s.steps := ⟨_, rfl⟩
  obtain ⟨dn, hdn⟩ : ∃ n, n = s.done := ⟨_, rfl⟩
  have hst2 : st ≤ 1000 := by rw [hst']; exact H.good.sl
  have hdst : dn < st := by rw [hst', hdn]; exact hd
  rw [← hst', ← hdn] at HC
  have hsd : ((dn : Int) == (st : Int)) = false := by simp; omega
  obtain ⟨L, hL⟩ : ∃ L, L = cs.length := ⟨_, rfl⟩
  rw [← hL] at HC
  have HL := Lib.hid hL
  have hkL : k < L := by rw [hL, hcl]; exact hkl
  have hkz : dn = k + rz.toNat := by rw [hrz, ← rzn_of, hdn]; omega
  have c0 := box_at HC.out (j := 0) rfl
  have c3 := box_at HC.out (j := 3) rfl
  have c4 := box_at HC.out (j := 4) rfl
  have c5 := box_at HC.out (j := 5) rfl
  have c6 := box_at HC.out (j := 6) rfl
  have HS := Lib.hid H
  have HK := Lib.hid (And.intro k1 (And.intro k2 k3))
  have HST := Lib.hid hst'; have HIN := Lib.hid hi; have HDN := Lib.hid hd; have HDE := Lib.hid hdn; have HZ := Lib.hid hrz; have HIMG := Lib.hid himg; have HKZ := Lib.hid hkz
  have hpg : (qc.1 : Int) * 128 ≤ 24000 := by omega
  rw [Int.natCast_mul] at HP
  rw [← hst', ← hdn]
  clear H hl k1 k2 k3 hok hst hst' hi hd hz himg hdn hL hcl hkl hcell hflat hq hqb hby hraw hcs hchs hc hrz k0 hk hkz
  have hkLi : (k : Int) < L := by omega
  have hk0 : ¬ ((k : Int) < 0) := by omega
  cases rz
  · have hkz := HKZ.out
    simp only [Bool.toNat_false, Bool.toNat_true, Nat.add_zero] at hkz
    subst hkz
    go_enter Try.func13, Try.ntmps13
    go_upto_region 1 with (fail)
    refine Txt.Ty.wp_tree [] [] [] [7, 11] [0] (.alt [1, 2, 3, 4, 5, 6, 7, 8, 9, 10, 11, 12, 13] (.done) (.no)) (by kernel_rfl) (by kernel_rfl) (by kernel_rfl) (by kernel_rfl) (fun _ h => by cases h) ?_
    (try simp only [Txt.pick, List.getElem?_cons_succ, List.getElem?_cons_zero])
    go_wp2
    refine Txt.RunPost.mk ?_
    refine Txt.Ty.wpTr_alt ?_ Txt.Ty.wpTr_no
    (try simp only [Txt.pick, List.getElem?_cons_succ, List.getElem?_cons_zero])
    go_wp2_with fail
    refine HI.out.mono ?_
    rintro e w' ⟨rfl, rfl⟩
    go_wp2
    refine Txt.SegPost.mk Txt.Ty.Shown.none ?_
    (try simp only [Txt.pick, List.getElem?_cons_succ, List.getElem?_cons_zero])
    go_wp2
    refine Txt.RunPost.mk ?_
    refine Txt.Ty.wpTr_done (by rfl) trivial ?_
    go_upto_region 8 with (fail)
    refine Txt.Ty.wp_tree [] [] [] [3, 7, 11, 16, 20] [0, 1, 2, 3, 4, 5, 6, 7, 8, 9, 10, 11, 12, 13, 14, 15, 16, 17, 18, 19, 20] (.alt [21] (.done) (.no)) (by kernel_rfl) (by kernel_rfl) (by kernel_rfl) (by kernel_rfl) (fun _ h => by cases h) ?_
    (try simp only [Txt.pick, List.getElem?_cons_succ, List.getElem?_cons_zero])
    go_wp2
    refine Txt.RunPost.mk ?_
    refine Txt.Ty.wpTr_alt ?_ Txt.Ty.wpTr_no
    (try simp only [Txt.pick, List.getElem?_cons_succ, List.getElem?_cons_zero])
    go_wp2_with fail
    refine HP.out.mono ?_
    intro e w2 hP
    have he := hP.1
    subst he
    replace hP := writeP_step hP
    have hc2 := stepP_cell hP HS.out.hn HC.out
    have HC2 := Lib.hid hc2
    have d5 := box_at hc2 (j := 5) rfl
    have e5 := box_free hc2 5
    have hPP := Lib.hid hP
    clear hc2 hP
    go_wp2
    refine Txt.SegPost.mk Txt.Ty.Shown.none ?_
    (try simp only [Txt.pick, List.getElem?_cons_succ, List.getElem?_cons_zero])
    go_wp2
    refine Txt.RunPost.mk ?_
    refine Txt.Ty.wpTr_done (by rfl) trivial ?_
    go_upto_region 10 with (fail)
    obtain ⟨hX, hkX⟩ := puts_at [(5, .int .i64 ((dn : Int) + 1))] HC2.out
    obtain ⟨X, hXe⟩ : ∃ X, X = w2.setCell ⟨g, 5, none⟩ (.int .i64 ((dn : Int) + 1)) := ⟨_, rfl⟩
    rw [← hXe]
    have eX : puts w2 g [(5, .int .i64 ((dn : Int) + 1))] = X := hXe.symm
    rw [eX] at hX hkX
    have c5' := box_at hX (j := 5) rfl
    have c6' := box_at hX (j := 6) rfl
    have HX := Lib.hid hX; have HKX := Lib.hid hkX
    clear hX hkX hXe eX d5 e5
    refine Txt.Ty.wp_tree [] [] [] [3, 7] [0, 1, 2, 3, 4, 5, 6, 7, 8, 9, 10] (.done) (by kernel_rfl) (by kernel_rfl) (by kernel_rfl) (by kernel_rfl) (fun _ h => by cases h) ?_
    (try simp only [Txt.pick, List.getElem?_cons_succ, List.getElem?_cons_zero])
    go_wp2
    refine Txt.RunPost.mk ?_
    refine Txt.Ty.wpTr_done (by rfl) trivial ?_
    go_wp2
    go_ret2
    have hfin : StQ w.drew.drew base g h iv rv (stepped s) X := by
      have hI := HIN.out
      have hD : (stepped s).done = dn + 1 := by have := HDE.out; simp [stepped, ← this]
      have hSt : (stepped s).steps = st := by rw [HST.out]; rfl
      have hSB := HS.out.below (Below.refl _ w).drew.drew
      refine st_after hSB (s' := stepped s) (rs' := rs.map (·.1) ++ [⟨((qc.1 * 128 : Nat) : Int), img.length, (img.take (qc.1 * 128 + qc.2.length)).drop (qc.1 * 128)⟩]) (by rw [HK.out.1]; rw [show (stepped s).inst = true from hI]; exact hPP.out) (by rw [hD, hSt, ← HL.out]; exact HX.out) HKX.out (stepped_good HS.out.good hI HDN.out) hSB.hi hSB.hx hSB.hch HK.out.2.1 (by rw [HK.out.1]; exact HK.out.2.2) ?_ (fun _ => HZ.out)
      rw [List.length_append, List.length_map, HS.out.rl, hD, ← HDE.out]; rfl
    have e : (st : Int) - (((dn : Int) + 1)) = ((st - (dn + 1) : Nat) : Int) := by omega
    exact ⟨by rw [← e]; rfl, StQ_drewR (StQ_drew (StQ_drew hfin))⟩
  · have hkz := HKZ.out
    simp only [Bool.toNat_false, Bool.toNat_true, Nat.add_zero] at hkz
    subst hkz
    go_enter Try.func13, Try.ntmps13
    go_upto_region 1 with (fail)
    refine Txt.Ty.wp_tree [] [] [] [7, 11] [0] (.alt [1, 2, 3, 4, 5, 6, 7, 8, 9, 10, 11, 12, 13] (.done) (.no)) (by kernel_rfl) (by kernel_rfl) (by kernel_rfl) (by kernel_rfl) (fun _ h => by cases h) ?_
    (try simp only [Txt.pick, List.getElem?_cons_succ, List.getElem?_cons_zero])
    go_wp2
    refine Txt.RunPost.mk ?_
    refine Txt.Ty.wpTr_alt ?_ Txt.Ty.wpTr_no
    (try simp only [Txt.pick, List.getElem?_cons_succ, List.getElem?_cons_zero])
    go_wp2_with fail
    refine HI.out.mono ?_
    rintro e w' ⟨rfl, rfl⟩
    go_wp2
    refine Txt.SegPost.mk Txt.Ty.Shown.none ?_
    (try simp only [Txt.pick, List.getElem?_cons_succ, List.getElem?_cons_zero])
    go_wp2
    refine Txt.RunPost.mk ?_
    refine Txt.Ty.wpTr_done (by rfl) trivial ?_
    go_upto_region 8 with (fail)
    refine Txt.Ty.wp_tree [] [] [] [3, 7, 11, 16, 20] [0, 1, 2, 3, 4, 5, 6, 7, 8, 9, 10, 11, 12, 13, 14, 15, 16, 17, 18, 19, 20] (.alt [21] (.done) (.no)) (by kernel_rfl) (by kernel_rfl) (by kernel_rfl) (by kernel_rfl) (fun _ h => by cases h) ?_
    (try simp only [Txt.pick, List.getElem?_cons_succ, List.getElem?_cons_zero])
    go_wp2
    refine Txt.RunPost.mk ?_
    refine Txt.Ty.wpTr_alt ?_ Txt.Ty.wpTr_no
    (try simp only [Txt.pick, List.getElem?_cons_succ, List.getElem?_cons_zero])
    go_wp2_with fail
    refine HP.out.mono ?_
    intro e w2 hP
    have he := hP.1
    subst he
    replace hP := writeP_step hP
    have hc2 := stepP_cell hP HS.out.hn HC.out
    have HC2 := Lib.hid hc2
    have d5 := box_at hc2 (j := 5) rfl
    have e5 := box_free hc2 5
    have hPP := Lib.hid hP
    clear hc2 hP
    go_wp2
    refine Txt.SegPost.mk Txt.Ty.Shown.none ?_
    (try simp only [Txt.pick, List.getElem?_cons_succ, List.getElem?_cons_zero])
    go_wp2
    refine Txt.RunPost.mk ?_
    refine Txt.Ty.wpTr_done (by rfl) trivial ?_
    go_upto_region 10 with (fail)
    obtain ⟨hX, hkX⟩ := puts_at [(5, .int .i64 ((k : Int) + 1 + 1))] HC2.out
    obtain ⟨X, hXe⟩ : ∃ X, X = w2.setCell ⟨g, 5, none⟩ (.int .i64 ((k : Int) + 1 + 1)) := ⟨_, rfl⟩
    rw [← hXe]
    have eX : puts w2 g [(5, .int .i64 ((k : Int) + 1 + 1))] = X := hXe.symm
    rw [eX] at hX hkX
    have c5' := box_at hX (j := 5) rfl
    have c6' := box_at hX (j := 6) rfl
    have HX := Lib.hid hX; have HKX := Lib.hid hkX
    clear hX hkX hXe eX d5 e5
    refine Txt.Ty.wp_tree [] [] [] [3, 7] [0, 1, 2, 3, 4, 5, 6, 7, 8, 9, 10] (.done) (by kernel_rfl) (by kernel_rfl) (by kernel_rfl) (by kernel_rfl) (fun _ h => by cases h) ?_
    (try simp only [Txt.pick, List.getElem?_cons_succ, List.getElem?_cons_zero])
    go_wp2
    refine Txt.RunPost.mk ?_
    refine Txt.Ty.wpTr_done (by rfl) trivial ?_
    go_wp2
    go_ret2
    have hfin : StQ w.drew.drew base g h iv rv (stepped s) X := by
      have hI := HIN.out
      have hD : (stepped s).done = k + 1 + 1 := by have := HDE.out; simp [stepped, ← this]
      have hSt : (stepped s).steps = st := by rw [HST.out]; rfl
      have hSB := HS.out.below (Below.refl _ w).drew.drew
      refine st_after hSB (s' := stepped s) (rs' := rs.map (·.1) ++ [⟨((qc.1 * 128 : Nat) : Int), img.length, (img.take (qc.1 * 128 + qc.2.length)).drop (qc.1 * 128)⟩]) (by rw [HK.out.1]; rw [show (stepped s).inst = true from hI]; exact hPP.out) (by rw [hD, hSt, ← HL.out]; exact HX.out) HKX.out (stepped_good HS.out.good hI HDN.out) hSB.hi hSB.hx hSB.hch HK.out.2.1 (by rw [HK.out.1]; exact HK.out.2.2) ?_ (fun _ => HZ.out)
      rw [List.length_append, List.length_map, HS.out.rl, hD, ← HDE.out]; rfl
    have e : (st : Int) - (((k : Int) + 1 + 1)) = ((st - (k + 1 + 1) : Nat) : Int) := by omega
    exact ⟨by rw [← e]; rfl, StQ_drewR (StQ_drew (StQ_drew hfin))⟩
end Go.Proofs.Ytnbngidelpodkaa
