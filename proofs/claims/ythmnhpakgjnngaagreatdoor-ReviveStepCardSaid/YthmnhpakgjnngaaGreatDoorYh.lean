/- Revive: the reference's alarm -/
import Derived.Test.YthmnhpakgjnngaaGreatDoorYg
import Derived.Deep.CutRange
import Derived.WalkMore
namespace Go.Rv
open Go Go.RowKit Go.Bs Go.Cl Go.Rw Go.Dt
theorem raw_new {F : List Nat} {k n N : Nat} {w : World} {v : Value} {xs : List Value} (h : Raw F k w v n xs) (hN : N = w.heap.size) : Raw (N :: F) k w v n xs :=
  Raw.fresh h (fun f hf => (List.mem_cons.1 hf).elim (fun e => .inr (by omega)) .inl)
theorem raw_at {F : List Nat} {k n N : Nat} {w : World} {v : Value} {xs : List Value} (h : Raw F k w v n xs) (hN : w.heap.size ≤ N) : Raw (N :: F) k w v n xs :=
  Raw.fresh h (fun f hf => (List.mem_cons.1 hf).elim (fun e => .inr (by omega)) .inl)
theorem raw_sub {F G : List Nat} {k n : Nat} {w : World} {v : Value} {xs : List Value} (h : Raw F k w v n xs) (hG : ∀ f ∈ G, f ∈ F) : Raw G k w v n xs := Raw.fresh h (fun f hf => .inl (hG f hf))
theorem raw_range {u : World} {G : List Nat} {k n : Nat} {w : World} {v : Value} {xs : List Value} (h : Raw (List.range u.heap.size) k w v n xs) (hG : ∀ f ∈ G, f < u.heap.size) : Raw G k w v n xs := raw_sub h (fun f hf => List.mem_range.2 (hG f hf))
theorem raw_set {F G : List Nat} {k n : Nat} {w w' : World} {v : Value} {xs : List Value} (h : Raw F k w v n xs) (hk : Keep G w w') (hG : ∀ f ∈ G, f ∈ F) : Raw F k w' v n xs := Raw.keep (F' := F) h hk (fun f hf => .inl (hG f hf)) (fun f hf => .inl hf)
theorem boxEf {w : World} (g : Nat) (x : Ef) {t : TypeId} (h : w.heap[g]? = some (.cells (encE x).toArray t (0, 0))) : Raw [] 15 w (.slice (some ⟨g, 0, none⟩) 1 1) 1 (encE x) :=
  Raw.of_block (ys := encE x) h (by intro h; cases h) (fun u hu => encE_one [x] u (by simpa using hu)) rfl (Nat.le_refl _) (by unfold maxLen; omega)
theorem own_type2 {w w' : World} {base e k n g : Nat} {v : Value} {xs : List Value} {cs : Array Value} {t : Nat} {fr : Nat × Nat} (h : w.ownsRow base e k v n xs) (hk : Keep [g] w w') (hg : w.heap[g]? = some (.cells cs t fr)) (hne : t ≠ e) : w'.ownsRow base e k v n xs :=
  own_keep h hk (fun q hq hm => by
    rw [List.mem_singleton] at hm
    obtain ⟨cur, hc⟩ := RowF.type (.inl h) (r := q) hq
    rw [hm, hg] at hc
    injection hc with hc
    injection hc with _ h2 _
    exact hne h2)
theorem heap_put01 {w : World} {g : Nat} {x y z : Value} {t : TypeId} (h : w.heap[g]? = some (.cells #[x, y, z] t (0, 0))) (a b : Value) : ((w.setCell ⟨g, 0, none⟩ a).setCell ⟨g, 1, none⟩ b).heap[g]? = some (.cells #[a, b, z] t (0, 0)) := by
  simp only [World.setCell, Array.getElem?_modify]
  simp [h]
theorem boxEf' {w : World} {F : List Nat} (g : Nat) (x : Ef) {t : TypeId} (h : w.heap[g]? = some (.cells (encE x).toArray t (0, 0))) (hF : ∀ f ∈ F, f ≠ g) : Raw F 15 w (.slice (some ⟨g, 0, none⟩) 1 1) [x].length ([x].flatMap encE) :=
  show Raw F 15 w (.slice (some ⟨g, 0, none⟩) 1 1) 1 ([x].flatMap encE) from Raw.of_block (ys := [x].flatMap encE) h (fun hm => hF g hm rfl) (encE_one [x]) rfl (Nat.le_refl _) (by unfold maxLen; omega)
/-- what the reference's alarm returns -/
def RetA (x : Sv) (F : List Nat) (w : World) (e : Ending) (w' : World) : Prop := Below w.heap.size w w' ∧ ∃ wv hv ev, e = .returned (.tuple #[.agg #[.int .i64 (alarmV x).1.r, wv, hv], ev]) ∧ Ints F w' wv (alarmV x).1.wt ∧ Raw F 3 w' hv (alarmV x).1.hs.length ((alarmV x).1.hs.flatMap encH) ∧ Raw F 15 w' ev (alarmV x).2.length ((alarmV x).2.flatMap encE)
end Go.Rv
namespace Go.Rv
open Go Go.RowKit Go.Bs Go.Cl Go.Rw Go.Dt
/-- the alarm's loops: the state's block S, the effects' row, the components' row, in world w, from world u on -/
structure AlAt (ts te : TypeId) (u w : World) (S R : Nat) (F : List Nat) (r : Int) (bw hv ov gv : Value) (hsl : List Hs) (es : List Ef) (gl : List Int) : Prop where
  kp : Keep [S] u w
  sx : w.heap[S]? = some (.cells #[.int .i64 r, bw, hv] ts (0, 0))
  hh : Raw (ov.ownBlock.toList ++ S :: R :: F) 3 w hv hsl.length (hsl.flatMap encH)
  oo : w.ownsRow u.heap.size te 15 ov es.length (es.flatMap encE)
  gg : w.ownsRow u.heap.size 3 1 gv gl.length (gl.map (Value.int .i64))
  hS : S < u.heap.size
variable {ts te : TypeId} {u w w' : World} {S R : Nat} {F : List Nat} {r : Int} {bw hv ov gv : Value} {hsl : List Hs} {es : List Ef} {gl : List Int}
theorem AlAt.lt (h : AlAt ts te u w S R F r bw hv ov gv hsl es gl) : S < w.heap.size := (Array.getElem?_eq_some_iff.1 h.sx).1
theorem AlAt.low (h : AlAt ts te u w S R F r bw hv ov gv hsl es gl) : ∀ f ∈ ov.ownBlock.toList, u.heap.size ≤ f := fun f hf => (h.oo.lt f (by simpa using hf)).1
theorem AlAt.below (h : AlAt ts te u w S R F r bw hv ov gv hsl es gl) (hb : Below w.heap.size w w') : AlAt ts te u w' S R F r bw hv ov gv hsl es gl :=
  ⟨h.kp.trans (Keep.of_below' (F := []) hb) (fun f hf => by cases hf), (hb.block S h.lt).trans h.sx, Raw.below h.hh hb, own_below h.oo hb (Nat.le_refl _), own_below h.gg hb (Nat.le_refl _), h.hS⟩
theorem AlAt.block (h : AlAt ts te u w S R F r bw hv ov gv hsl es gl) {M : Nat} {o : Obj} (hM : u.heap[M]? = some o) (hne : M ≠ S) : w.heap[M]? = some o := (h.kp.block M (Array.getElem?_eq_some_iff.1 hM).1 (by simpa using hne)).trans hM
theorem AlAt.row (h : AlAt ts te u w S R F r bw hv ov gv hsl es gl) {k n : Nat} {v : Value} {xs : List Value} {G : List Nat} (hr : Raw (S :: G) k u v n xs) : Raw (S :: G) k w v n xs := raw_set hr h.kp (fun f hf => by rw [List.mem_singleton.1 hf]; simp)
theorem AlAt.fail {w1 : World} {hv' : Value} {hsl' : List Hs} (h : AlAt ts te u w S R F r bw hv ov gv hsl es gl) (hb : Below w.heap.size w w1) (hF : ∀ f ∈ S :: R :: F, f < w.heap.size) (hr : Raw (List.range w.heap.size) 3 w1 hv' hsl'.length (hsl'.flatMap encH)) :
    AlAt ts te u (((w1.setCell ⟨S, 0, none⟩ (.int .i64 r)).setCell ⟨S, 1, none⟩ bw).setCell ⟨S, 2, none⟩ hv') S R F r bw hv' ov gv hsl' es gl := by
  have h1 := h.below hb
  have hk : Keep [S] w1 (((w1.setCell ⟨S, 0, none⟩ (.int .i64 r)).setCell ⟨S, 1, none⟩ bw).setCell ⟨S, 2, none⟩ hv') := (((Keep.refl [S] w1).setCell (by simp) _).setCell (by simp) _).setCell (by simp) _
  have hlow := h.low
  have hS := h.hS
  refine ⟨h1.kp.trans hk (fun f hf => .inl hf), heap_set3 h1.sx _ _ _, ?_, own_keep h1.oo hk (fun q hq hm => by have := (h1.oo.lt q hq).1; rw [List.mem_singleton] at hm; omega), own_keep h1.gg hk (fun q hq hm => by have := (h1.gg.lt q hq).1; rw [List.mem_singleton] at hm; omega), hS⟩
  refine raw_set (raw_range hr (fun f hf => ?_)) hk (fun f hf => by rw [List.mem_singleton.1 hf]; simp)
  rcases List.mem_append.1 hf with hf | hf
  · have := (h.oo.lt f (by simpa using hf)).2; exact this
  · exact hF f hf
theorem AlAt.push {ov' : Value} {x : Ef} (h : AlAt ts te u w S R F r bw hv ov gv hsl es gl) (hte : te ≠ 3) (hrow : w'.ownsRow u.heap.size te 15 ov' (es.length + 1) (es.flatMap encE ++ encE x)) (hk : Keep ov.ownBlock.toList w w') (hn : ∀ f ∈ ov'.ownBlock.toList, f ∈ ov.ownBlock.toList ∨ w.heap.size ≤ f) :
    AlAt ts te u w' S R F r bw hv ov' gv hsl (es ++ [x]) gl := by
  have hlow := h.low
  have hS := h.hS
  refine ⟨h.kp.trans hk (fun f hf => .inr (hlow f hf)), (hk.block S h.lt (fun hm => by have := hlow S hm; omega)).trans h.sx, ?_, by rw [List.length_append, List.flatMap_append]; simpa using hrow, own_keep h.gg hk (fun q hq hm => ?_), hS⟩
  · exact Raw.keep (F' := ov'.ownBlock.toList ++ S :: R :: F) h.hh hk (fun f hf => .inl (List.mem_append_left _ hf)) (fun f hf => (List.mem_append.1 hf).elim (fun h1 => (hn f h1).elim (fun h2 => .inl (List.mem_append_left _ h2)) .inr) (fun h1 => .inl (List.mem_append_right _ h1)))
  · obtain ⟨cur, hc⟩ := RowF.type (.inl h.oo) (r := q) (by simpa using hm)
    obtain ⟨cur', hc'⟩ := RowF.type (.inl h.gg) (r := q) hq
    rw [hc] at hc'
    injection hc' with hc'
    injection hc' with _ h2 _
    exact hte h2
theorem AlAt.comps {gv' : Value} {gl' : List Int} (h : AlAt ts te u w S R F r bw hv ov gv hsl es gl) (hb : Below w.heap.size w w') (hg : w'.ownsRow w.heap.size 3 1 gv' gl'.length (gl'.map (Value.int .i64))) : AlAt ts te u w' S R F r bw hv ov gv' hsl es gl' := by
  have h1 := h.below hb
  exact ⟨h1.kp, h1.sx, h1.hh, h1.oo, own_base hg h.kp.size, h1.hS⟩
end Go.Rv
namespace Go.Proofs.YthmnhpakgjnngaaGreatDoor
open Go.RowKit Go.Bs Go.Cl Go.Rw Go.Dt Go.Rv
set_option maxRecDepth 100000 in
set_option maxHeartbeats 16000000 in
theorem ralarm_any (x : Sv) (wv hv : Value) (F : List Nat) (w : World) (hok : VOk x) (hF : ∀ f ∈ F, f < w.heap.size) (h1 : Ints F w wv x.wt) (h2 : Raw F 3 w hv x.hs.length (x.hs.flatMap encH)) :
    Calls Tryz.prog 49 #[.agg #[.int .i64 x.r, wv, hv]] w (RetA x F w) := by
  obtain ⟨wa, wc, rfl⟩ := Raw.slice h1
  obtain ⟨ha, hc, rfl⟩ := Raw.slice h2
  have hl1 := hok.len
  have hl2 := validH_len hok.h
  have hr1 := hok.b.r1
  have hr0 := hok.b.r0
  obtain ⟨C1, hC1⟩ : ∃ C : Array Value, C = #[.int .i64 x.r, .slice wa x.wt.length wc, .slice ha x.hs.length hc] := ⟨_, rfl⟩
  have bel1 : Below w.heap.size w ((w.alloc (.cells C1 27)).alloc (.cells #[.int .i64 0, .slice none 0 0, .slice none 0 0] 27)) := ((Below.refl _ w).alloc (Nat.le_refl _) _).alloc (by simp) _
  obtain ⟨W, hW⟩ : ∃ W, W = (w.alloc (.cells C1 27)).alloc (.cells #[.int .i64 0, .slice none 0 0, .slice none 0 0] 27) := ⟨_, rfl⟩
  have hA : W.heap[w.heap.size]? = some (.cells C1 27 (0, 0)) := by rw [hW]; exact (Below.heap_alloc (w.alloc (.cells C1 27)) _ _ (by simp)).trans (heap_alloc_new w _)
  have hB : W.heap[w.heap.size + 1]? = some (.cells #[.int .i64 0, .slice none 0 0, .slice none 0 0] 27 (0, 0)) := by
    rw [hW]
    have := heap_alloc_new (w.alloc (.cells C1 27)) (.cells #[.int .i64 0, .slice none 0 0, .slice none 0 0] 27)
    simpa using this
  rw [← hW] at bel1
  rw [hC1] at hW hA
  obtain ⟨S, hAe⟩ : ∃ A, A = w.heap.size := ⟨_, rfl⟩
  obtain ⟨R, hBe⟩ : ∃ B, B = w.heap.size + 1 := ⟨_, rfl⟩
  rw [← hAe] at hA
  rw [← hBe] at hB
  have hwS : w.heap.size ≤ S := by omega
  have hwR : w.heap.size ≤ R := by omega
  have hSR : S < R := by omega
  have hSW := (Array.getElem?_eq_some_iff.1 hA).1
  have hRW := (Array.getElem?_eq_some_iff.1 hB).1
  have hSRF : Hid (∀ f ∈ S :: R :: F, f < W.heap.size) := Lib.hid (fun f hf => by
    simp only [List.mem_cons] at hf
    rcases hf with rfl | rfl | hf
    · exact hSW
    · exact hRW
    · have := hF f hf; have := bel1.size; omega)
  have HW := Lib.hid hW; have HAe := Lib.hid hAe; have HBe := Lib.hid hBe
  have HS1 := Lib.hid hA; have HR1 := Lib.hid hB
  have HI1 : Hid (Ints (S :: R :: F) W (.slice wa x.wt.length wc) x.wt) := Lib.hid (Raw.below (raw_at (raw_at h1 (by omega)) (by omega)) bel1)
  have HJ1 : Hid (Raw (S :: R :: F) 3 W (.slice ha x.hs.length hc) x.hs.length (x.hs.flatMap encH)) := Lib.hid (Raw.below (raw_at (raw_at h2 (by omega)) (by omega)) bel1)
  have HOK := Lib.hid hok
  obtain ⟨w1, hw1⟩ : ∃ y, y = W := ⟨_, rfl⟩
  rw [← hw1] at HW HS1 HR1 HI1 HJ1 bel1
  have hz1 : W.heap.size ≤ w1.heap.size := by rw [hw1]; exact Nat.le_refl _
  have hzz : Hid (w1.heap.size = W.heap.size) := Lib.hid (by rw [hw1])
  clear hW hC1 hA hB h1 h2 hAe hBe hok hF C1 hw1
  go_enter Tryz.func49, Tryz.ntmps49
  go_upto_region 1 with (fail)
  rw [← HW.out, ← HBe.out, ← HAe.out]
  clear HW HAe HBe
  obtain ⟨T, hT⟩ : ∃ O, O = w1.heap.size := ⟨_, rfl⟩
  obtain ⟨w2, hw2⟩ : ∃ W, W = w1.alloc (.cells #[.int .i64 4, .int .i64 64, .int .i64 1, .int .i64 0, .int .i64 0, .int .i64 0, .int .i64 0, .int .i64 0, .int .i64 0, .int .i64 0, .int .i64 0, .int .i64 0, .int .i64 0, .slice none 0 0, .slice none 0 0] 58) := ⟨_, rfl⟩
  have hb2 : Below w1.heap.size w1 w2 := by rw [hw2]; exact (Below.refl _ _).alloc (Nat.le_refl _) _
  have hxT : w2.heap[T]? = some (.cells #[.int .i64 4, .int .i64 64, .int .i64 1, .int .i64 0, .int .i64 0, .int .i64 0, .int .i64 0, .int .i64 0, .int .i64 0, .int .i64 0, .int .i64 0, .int .i64 0, .int .i64 0, .slice none 0 0, .slice none 0 0] 58 (0, 0)) := by rw [hw2, hT]; exact heap_alloc_new w1 _
  have HW2 := Lib.hid hw2
  have HRRT := Lib.hid hT
  go_upto_region 2 with (fail)
  rw [← HW2.out, ← HRRT.out]
  clear HW2 HRRT
  have hlT : w1.heap.size ≤ T := by omega
  have lt_S_T : S < T := Nat.lt_of_lt_of_le (Array.getElem?_eq_some_iff.1 HS1.out).1 hlT
  have lt_R_T : R < T := Nat.lt_of_lt_of_le (Array.getElem?_eq_some_iff.1 HR1.out).1 hlT
  clear hw2 hT
  have HS2 := Lib.hid ((hb2.block S (Array.getElem?_eq_some_iff.1 HS1.out).1).trans HS1.out)
  have HR2 := Lib.hid ((hb2.block R (Array.getElem?_eq_some_iff.1 HR1.out).1).trans HR1.out)
  have HI2 := Lib.hid (Raw.below HI1.out hb2)
  have HJ2 := Lib.hid (Raw.below HJ1.out hb2)
  have bel2 := bel1.trans (hb2.mono bel1.size)
  have hz2 := Nat.le_trans hz1 hb2.size
  clear HS1 HR1 HI1 HJ1
  have HT2 := Lib.hid (hxT)
  clear hb2 hxT
  have hTl : R < T := by omega
  by_cases hlt : x.r < 1000000000
  · have HLT := Lib.hid hlt
    have HAL : Hid (alarmV x = (⟨x.r + 1, comps, x.wt.foldl (fun h t => failH h t 7) x.hs⟩, x.wt.map (fun t => rstE t 1) ++ (comps.map (pingE (x.r + 1)) ++ [timE]))) := Lib.hid (by unfold alarmV; rw [if_pos hlt])
    clear hlt
    go_upto_region 2 with (fail)
    go_cut [5, 6, 7] from 14 to 21 (fun s5 s6 s7 wx => ∃ (B : Nat) (pa qa : Option Addr) (pc qc : Nat), s5 = .pointer (some ⟨B, 0, none⟩) ∧ s6 = .slice qa x.wt.length qc ∧ s7 = .int .i64 0 ∧ wx.heap[B]? = some (.cells #[.int .i64 (x.r + 1), .slice pa comps.length pc] 24 (0, 0)) ∧ R < B ∧ Ints (S :: R :: F) wx (.slice pa comps.length pc) comps ∧ Ints (S :: R :: F) wx (.slice qa x.wt.length qc) x.wt ∧ Raw (S :: R :: F) 3 wx (.slice ha x.hs.length hc) x.hs.length (x.hs.flatMap encH) ∧ wx.heap[S]? = some (.cells #[.int .i64 x.r, .slice wa x.wt.length wc, .slice ha x.hs.length hc] 27 (0, 0)) ∧ wx.heap[R]? = some (.cells #[.int .i64 0, .slice none 0 0, .slice none 0 0] 27 (0, 0)) ∧ wx.heap[T]? = some (.cells #[.int .i64 4, .int .i64 64, .int .i64 1, .int .i64 0, .int .i64 0, .int .i64 0, .int .i64 0, .int .i64 0, .int .i64 0, .int .i64 0, .int .i64 0, .int .i64 0, .int .i64 0, .slice none 0 0, .slice none 0 0] 58 (0, 0)) ∧ Below w.heap.size w wx ∧ W.heap.size ≤ wx.heap.size)
    case first =>
      go_upto_region 2 with (fail)
      have hBl : ∀ q ∈ [S], ∃ cc e f, w2.heap[q]? = some (.cells cc e f) := by
        intro q hq
        simp only [List.mem_cons, List.not_mem_nil, or_false] at hq
        rcases hq with rfl <;> first | exact ⟨_, _, _, HS2.out⟩
      refine Txt.Ty.wp_tree [S] [1] [9] [1] [0, 1] (.alt [2] (.alt [3, 4, 5, 6, 7] (.alt [8] (.alt [9, 10, 11] (.done) (.no)) (.no)) (.alt [8] (.alt [3, 4, 5, 6, 7] (.alt [9, 10, 11] (.done) (.no)) (.no)) (.no))) (.alt [8] (.alt [2] (.alt [3, 4, 5, 6, 7] (.alt [9, 10, 11] (.done) (.no)) (.no)) (.no)) (.no))) (by kernel_rfl) (by kernel_rfl) (by kernel_rfl) (by kernel_rfl) hBl ?_
      obtain ⟨w3, hwd⟩ : ∃ y, y = w2.drew := ⟨_, rfl⟩
      have HSB3 : Hid (Txt.SameB [S] w3 w3) := Lib.hid (by rw [hwd]; exact same_start hBl)
      clear hBl
      rw [← hwd]
      have hdr : Below w2.heap.size w2 w3 := by rw [hwd]; exact (Below.refl _ _).drew
      have HS3 := Lib.hid ((hdr.block S (Array.getElem?_eq_some_iff.1 HS2.out).1).trans HS2.out)
      have HR3 := Lib.hid ((hdr.block R (Array.getElem?_eq_some_iff.1 HR2.out).1).trans HR2.out)
      have HI3 := Lib.hid (Raw.below HI2.out hdr)
      have HJ3 := Lib.hid (Raw.below HJ2.out hdr)
      have HT3 := Lib.hid ((hdr.block T (Array.getElem?_eq_some_iff.1 HT2.out).1).trans HT2.out)
      have bel3 := bel2.trans (hdr.mono bel2.size)
      have hz3 := Nat.le_trans hz2 hdr.size
      clear HS2 HR2 HI2 HJ2 HT2
      clear hdr hwd
      have cS_0 := box_at HS3.out (j := 0) rfl
      have cS_1 := box_at HS3.out (j := 1) rfl
      have cS_2 := box_at HS3.out (j := 2) rfl
      (try simp only [Txt.pick, List.getElem?_cons_succ, List.getElem?_cons_zero])
      go_wp2
      refine Txt.RunPost.mk ?_
      clear cS_0 cS_1 cS_2
      refine Txt.Ty.wpTr_alt ?_ (Txt.Ty.wpTr_alt ?_ Txt.Ty.wpTr_no)
      · (try simp only [Txt.pick, List.getElem?_cons_succ, List.getElem?_cons_zero])
        go_wp2_with fail
        refine (rcomps_any _).mono ?_
        rintro e w4 ⟨v4, rfl, hc4, hb4⟩
        have HS4 := Lib.hid ((hb4.block S (Array.getElem?_eq_some_iff.1 HS3.out).1).trans HS3.out)
        have HR4 := Lib.hid ((hb4.block R (Array.getElem?_eq_some_iff.1 HR3.out).1).trans HR3.out)
        have HI4 := Lib.hid (Raw.below HI3.out hb4)
        have HJ4 := Lib.hid (Raw.below HJ3.out hb4)
        have HT4 := Lib.hid ((hb4.block T (Array.getElem?_eq_some_iff.1 HT3.out).1).trans HT3.out)
        have HSB4 := Lib.hid (same_below' HSB3.out hb4)
        have bel4 := bel3.trans (hb4.mono bel3.size)
        have hz4 := Nat.le_trans hz3 hb4.size
        clear HS3 HR3 HI3 HJ3 HT3
        have HU4 : Hid (Ints [] w4 v4 comps) := Lib.hid (Ints.of_own hc4)
        obtain ⟨ua, uc, rfl⟩ := own_slice hc4
        clear hc4 hb4
        go_wp2
        refine Txt.SegPost.mk (Txt.Ty.Shown.same HSB4.out) ?_
        (try simp only [Txt.pick, List.getElem?_cons_succ, List.getElem?_cons_zero])
        go_wp2
        refine Txt.RunPost.mk ?_
        refine Txt.Ty.wpTr_alt ?_ (Txt.Ty.wpTr_alt ?_ Txt.Ty.wpTr_no)
        · (try simp only [Txt.pick, List.getElem?_cons_succ, List.getElem?_cons_zero])
          go_wp2_with fail
          refine (rping_any x.r _ _ x.wt w4 (by omega) (Raw.to_nil HI4.out) HU4.out HOK.out.b).mono ?_
          rintro e w5 ⟨hb5, hres⟩
          have HS5 := Lib.hid ((hb5.block S (Array.getElem?_eq_some_iff.1 HS4.out).1).trans HS4.out)
          have HR5 := Lib.hid ((hb5.block R (Array.getElem?_eq_some_iff.1 HR4.out).1).trans HR4.out)
          have HI5 := Lib.hid (Raw.below HI4.out hb5)
          have HJ5 := Lib.hid (Raw.below HJ4.out hb5)
          have HT5 := Lib.hid ((hb5.block T (Array.getElem?_eq_some_iff.1 HT4.out).1).trans HT4.out)
          have HU5 := Lib.hid (Raw.below HU4.out hb5)
          have HSB5 := Lib.hid (same_below' HSB4.out hb5)
          have bel5 := bel4.trans (hb5.mono bel4.size)
          have hz5 := Nat.le_trans hz4 hb5.size
          clear HS4 HR4 HI4 HJ4 HT4 HU4
          clear HU5
          rw [if_pos (by have := HLT.out; omega)] at hres
          obtain ⟨pv, qv, rfl, hp, hq⟩ := hres
          obtain ⟨pa, pc, rfl⟩ := Raw.slice hp
          obtain ⟨qa, qc, rfl⟩ := Raw.slice hq
          have hrg : ∀ f ∈ S :: R :: F, f < w4.heap.size := fun f hf => by
            have := hSRF.out f hf; omega
          have HP5 := Lib.hid (raw_range hp hrg)
          have HQ5 := Lib.hid (raw_range hq hrg)
          clear hp hq hrg
          clear hb5
          go_wp2
          refine Txt.SegPost.mk (Txt.Ty.Shown.same HSB5.out) ?_
          (try simp only [Txt.pick, List.getElem?_cons_succ, List.getElem?_cons_zero])
          go_wp2
          refine Txt.RunPost.mk ?_
          refine Txt.Ty.wpTr_alt ?_ Txt.Ty.wpTr_no
          (try simp only [Txt.pick, List.getElem?_cons_succ, List.getElem?_cons_zero])
          go_wp2
          obtain ⟨B, hB⟩ : ∃ O, O = w5.heap.size := ⟨_, rfl⟩
          obtain ⟨w6, hw6⟩ : ∃ W, W = w5.alloc (.cells #[.int .i64 0, .slice none 0 0] 24) := ⟨_, rfl⟩
          have hb6 : Below w5.heap.size w5 w6 := by rw [hw6]; exact (Below.refl _ _).alloc (Nat.le_refl _) _
          have hxB : w6.heap[B]? = some (.cells #[.int .i64 0, .slice none 0 0] 24 (0, 0)) := by rw [hw6, hB]; exact heap_alloc_new w5 _
          rw [← hw6, ← hB]
          have hlB : w5.heap.size ≤ B := by omega
          have lt_S_B : S < B := Nat.lt_of_lt_of_le (Array.getElem?_eq_some_iff.1 HS5.out).1 hlB
          have lt_R_B : R < B := Nat.lt_of_lt_of_le (Array.getElem?_eq_some_iff.1 HR5.out).1 hlB
          have lt_T_B : T < B := Nat.lt_of_lt_of_le (Array.getElem?_eq_some_iff.1 HT5.out).1 hlB
          replace HI5 := Lib.hid (raw_new HI5.out hB)
          replace HJ5 := Lib.hid (raw_new HJ5.out hB)
          replace HP5 := Lib.hid (raw_new HP5.out hB)
          replace HQ5 := Lib.hid (raw_new HQ5.out hB)
          clear hw6 hB
          have HS6 := Lib.hid ((hb6.block S (Array.getElem?_eq_some_iff.1 HS5.out).1).trans HS5.out)
          have HR6 := Lib.hid ((hb6.block R (Array.getElem?_eq_some_iff.1 HR5.out).1).trans HR5.out)
          have HI6 := Lib.hid (Raw.below HI5.out hb6)
          have HJ6 := Lib.hid (Raw.below HJ5.out hb6)
          have HT6 := Lib.hid ((hb6.block T (Array.getElem?_eq_some_iff.1 HT5.out).1).trans HT5.out)
          have HP6 := Lib.hid (Raw.below HP5.out hb6)
          have HQ6 := Lib.hid (Raw.below HQ5.out hb6)
          have HSB6 := Lib.hid (same_below' HSB5.out hb6)
          have bel6 := bel5.trans (hb6.mono bel5.size)
          have hz6 := Nat.le_trans hz5 hb6.size
          clear HS5 HR5 HI5 HJ5 HT5 HP5 HQ5
          have HB6 := Lib.hid (hxB)
          clear hb6 hxB
          have hRB : R < B := by omega
          refine Txt.SegPost.mk (Txt.Ty.Shown.same HSB6.out) ?_
          (try simp only [Txt.pick, List.getElem?_cons_succ, List.getElem?_cons_zero])
          go_wp2
          refine Txt.RunPost.mk ?_
          refine Txt.Ty.wpTr_alt ?_ Txt.Ty.wpTr_no
          (try simp only [Txt.pick, List.getElem?_cons_succ, List.getElem?_cons_zero])
          have cB_0 := box_at HB6.out (j := 0) rfl
          have fB_0 := box_free HB6.out 0
          have cB_1 := box_at HB6.out (j := 1) rfl
          have fB_1 := box_free HB6.out 1
          go_wp2
          clear cB_0 fB_0 cB_1 fB_1
          have hwB : w.heap.size ≤ B := by omega
          obtain ⟨w7, hw7⟩ : ∃ Y, Y = ((w6.setCell ⟨B, 0, none⟩ (.int .i64 (x.r + 1))).setCell ⟨B, 1, none⟩ (.slice pa comps.length pc)) := ⟨_, rfl⟩
          have hk7 : Keep [B] w6 w7 := by rw [hw7]; exact keep_set2 w6 B _ _
          have hx7 := heap_put2 HB6.out (.int .i64 (x.r + 1)) (.slice pa comps.length pc)
          rw [← hw7] at hx7
          have HS7 := Lib.hid ((hk7.block S (Array.getElem?_eq_some_iff.1 HS6.out).1 (by simp only [List.mem_singleton]; omega)).trans HS6.out)
          have HR7 := Lib.hid ((hk7.block R (Array.getElem?_eq_some_iff.1 HR6.out).1 (by simp only [List.mem_singleton]; omega)).trans HR6.out)
          have HI7 := Lib.hid (raw_set HI6.out hk7 (fun f hf => by rw [List.mem_singleton.1 hf]; simp))
          have HJ7 := Lib.hid (raw_set HJ6.out hk7 (fun f hf => by rw [List.mem_singleton.1 hf]; simp))
          have HT7 := Lib.hid ((hk7.block T (Array.getElem?_eq_some_iff.1 HT6.out).1 (by simp only [List.mem_singleton]; omega)).trans HT6.out)
          have HP7 := Lib.hid (raw_set HP6.out hk7 (fun f hf => by rw [List.mem_singleton.1 hf]; simp))
          have HQ7 := Lib.hid (raw_set HQ6.out hk7 (fun f hf => by rw [List.mem_singleton.1 hf]; simp))
          have HB7 := Lib.hid hx7
          have bel7 := bel6.trans (hk7.below bel6.size (fun f hf => by rw [List.mem_singleton.1 hf]; exact hwB))
          have hz7 := Nat.le_trans hz6 hk7.size
          clear hx7
          clear HS6 HR6 HI6 HJ6 HT6 HP6 HQ6 HB6
          rw [← hw7]
          clear hw7
          clear HSB6
          refine Txt.SegPost.mk (Txt.Ty.Shown.last rfl) ?_
          (try simp only [Txt.pick, List.getElem?_cons_succ, List.getElem?_cons_zero])
          go_wp2
          refine Txt.RunPost.mk ?_
          refine Txt.Ty.wpTr_done (by rfl) ⟨.head _, trivial⟩ ?_
          go_wp2
          go_meet
          case rel => exact ⟨B, pa, qa, pc, qc, rfl, rfl, rfl, HB7.out, hRB, raw_sub HP7.out (fun f hf => List.mem_cons_of_mem _ hf), raw_sub HQ7.out (fun f hf => List.mem_cons_of_mem _ hf), raw_sub HJ7.out (fun f hf => List.mem_cons_of_mem _ hf), HS7.out, HR7.out, HT7.out, bel7, hz7⟩
        · (try simp only [Txt.pick, List.getElem?_cons_succ, List.getElem?_cons_zero])
          go_wp2
          obtain ⟨B, hB⟩ : ∃ O, O = w4.heap.size := ⟨_, rfl⟩
          obtain ⟨w5, hw5⟩ : ∃ W, W = w4.alloc (.cells #[.int .i64 0, .slice none 0 0] 24) := ⟨_, rfl⟩
          have hb5 : Below w4.heap.size w4 w5 := by rw [hw5]; exact (Below.refl _ _).alloc (Nat.le_refl _) _
          have hxB : w5.heap[B]? = some (.cells #[.int .i64 0, .slice none 0 0] 24 (0, 0)) := by rw [hw5, hB]; exact heap_alloc_new w4 _
          rw [← hw5, ← hB]
          have hlB : w4.heap.size ≤ B := by omega
          have lt_S_B : S < B := Nat.lt_of_lt_of_le (Array.getElem?_eq_some_iff.1 HS4.out).1 hlB
          have lt_R_B : R < B := Nat.lt_of_lt_of_le (Array.getElem?_eq_some_iff.1 HR4.out).1 hlB
          have lt_T_B : T < B := Nat.lt_of_lt_of_le (Array.getElem?_eq_some_iff.1 HT4.out).1 hlB
          replace HI4 := Lib.hid (raw_new HI4.out hB)
          replace HJ4 := Lib.hid (raw_new HJ4.out hB)
          clear hw5 hB
          have HS5 := Lib.hid ((hb5.block S (Array.getElem?_eq_some_iff.1 HS4.out).1).trans HS4.out)
          have HR5 := Lib.hid ((hb5.block R (Array.getElem?_eq_some_iff.1 HR4.out).1).trans HR4.out)
          have HI5 := Lib.hid (Raw.below HI4.out hb5)
          have HJ5 := Lib.hid (Raw.below HJ4.out hb5)
          have HT5 := Lib.hid ((hb5.block T (Array.getElem?_eq_some_iff.1 HT4.out).1).trans HT4.out)
          have HU5 := Lib.hid (Raw.below HU4.out hb5)
          have HSB5 := Lib.hid (same_below' HSB4.out hb5)
          have bel5 := bel4.trans (hb5.mono bel4.size)
          have hz5 := Nat.le_trans hz4 hb5.size
          clear HS4 HR4 HI4 HJ4 HT4 HU4
          have HB5 := Lib.hid (hxB)
          clear hb5 hxB
          have hRB : R < B := by omega
          refine Txt.SegPost.mk (Txt.Ty.Shown.same HSB5.out) ?_
          (try simp only [Txt.pick, List.getElem?_cons_succ, List.getElem?_cons_zero])
          go_wp2
          refine Txt.RunPost.mk ?_
          refine Txt.Ty.wpTr_alt ?_ Txt.Ty.wpTr_no
          (try simp only [Txt.pick, List.getElem?_cons_succ, List.getElem?_cons_zero])
          have hBn5 := (Array.getElem?_eq_some_iff.1 HB5.out).1
          go_wp2_with fail
          refine (rping_any x.r _ _ x.wt w5 (by omega) (Raw.to_nil HI5.out) HU5.out HOK.out.b).mono ?_
          rintro e w6 ⟨hb6, hres⟩
          have HS6 := Lib.hid ((hb6.block S (Array.getElem?_eq_some_iff.1 HS5.out).1).trans HS5.out)
          have HR6 := Lib.hid ((hb6.block R (Array.getElem?_eq_some_iff.1 HR5.out).1).trans HR5.out)
          have HI6 := Lib.hid (Raw.below HI5.out hb6)
          have HJ6 := Lib.hid (Raw.below HJ5.out hb6)
          have HT6 := Lib.hid ((hb6.block T (Array.getElem?_eq_some_iff.1 HT5.out).1).trans HT5.out)
          have HU6 := Lib.hid (Raw.below HU5.out hb6)
          have HB6 := Lib.hid ((hb6.block B (Array.getElem?_eq_some_iff.1 HB5.out).1).trans HB5.out)
          have HSB6 := Lib.hid (same_below' HSB5.out hb6)
          have bel6 := bel5.trans (hb6.mono bel5.size)
          have hz6 := Nat.le_trans hz5 hb6.size
          clear HS5 HR5 HI5 HJ5 HT5 HU5 HB5
          clear HU6
          rw [if_pos (by have := HLT.out; omega)] at hres
          obtain ⟨pv, qv, rfl, hp, hq⟩ := hres
          obtain ⟨pa, pc, rfl⟩ := Raw.slice hp
          obtain ⟨qa, qc, rfl⟩ := Raw.slice hq
          have hrg : ∀ f ∈ B :: S :: R :: F, f < w5.heap.size := fun f hf => by
            rcases List.mem_cons.1 hf with h | h
            · rw [h]; exact hBn5
            · have := hSRF.out f h; omega
          have HP6 := Lib.hid (raw_range hp hrg)
          have HQ6 := Lib.hid (raw_range hq hrg)
          clear hp hq hrg
          clear hb6
          go_wp2
          refine Txt.SegPost.mk (Txt.Ty.Shown.same HSB6.out) ?_
          (try simp only [Txt.pick, List.getElem?_cons_succ, List.getElem?_cons_zero])
          go_wp2
          refine Txt.RunPost.mk ?_
          refine Txt.Ty.wpTr_alt ?_ Txt.Ty.wpTr_no
          (try simp only [Txt.pick, List.getElem?_cons_succ, List.getElem?_cons_zero])
          have cB_0 := box_at HB6.out (j := 0) rfl
          have fB_0 := box_free HB6.out 0
          have cB_1 := box_at HB6.out (j := 1) rfl
          have fB_1 := box_free HB6.out 1
          go_wp2
          clear cB_0 fB_0 cB_1 fB_1
          have hwB : w.heap.size ≤ B := by omega
          obtain ⟨w7, hw7⟩ : ∃ Y, Y = ((w6.setCell ⟨B, 0, none⟩ (.int .i64 (x.r + 1))).setCell ⟨B, 1, none⟩ (.slice pa comps.length pc)) := ⟨_, rfl⟩
          have hk7 : Keep [B] w6 w7 := by rw [hw7]; exact keep_set2 w6 B _ _
          have hx7 := heap_put2 HB6.out (.int .i64 (x.r + 1)) (.slice pa comps.length pc)
          rw [← hw7] at hx7
          have HS7 := Lib.hid ((hk7.block S (Array.getElem?_eq_some_iff.1 HS6.out).1 (by simp only [List.mem_singleton]; omega)).trans HS6.out)
          have HR7 := Lib.hid ((hk7.block R (Array.getElem?_eq_some_iff.1 HR6.out).1 (by simp only [List.mem_singleton]; omega)).trans HR6.out)
          have HI7 := Lib.hid (raw_set HI6.out hk7 (fun f hf => by rw [List.mem_singleton.1 hf]; simp))
          have HJ7 := Lib.hid (raw_set HJ6.out hk7 (fun f hf => by rw [List.mem_singleton.1 hf]; simp))
          have HT7 := Lib.hid ((hk7.block T (Array.getElem?_eq_some_iff.1 HT6.out).1 (by simp only [List.mem_singleton]; omega)).trans HT6.out)
          have HB7 := Lib.hid hx7
          have HP7 := Lib.hid (raw_set HP6.out hk7 (fun f hf => by rw [List.mem_singleton.1 hf]; simp))
          have HQ7 := Lib.hid (raw_set HQ6.out hk7 (fun f hf => by rw [List.mem_singleton.1 hf]; simp))
          have bel7 := bel6.trans (hk7.below bel6.size (fun f hf => by rw [List.mem_singleton.1 hf]; exact hwB))
          have hz7 := Nat.le_trans hz6 hk7.size
          clear hx7
          clear HS6 HR6 HI6 HJ6 HT6 HB6 HP6 HQ6
          rw [← hw7]
          clear hw7
          clear HSB6
          refine Txt.SegPost.mk (Txt.Ty.Shown.last rfl) ?_
          (try simp only [Txt.pick, List.getElem?_cons_succ, List.getElem?_cons_zero])
          go_wp2
          refine Txt.RunPost.mk ?_
          refine Txt.Ty.wpTr_done (by rfl) ⟨.head _, trivial⟩ ?_
          go_wp2
          go_meet
          case rel => exact ⟨B, pa, qa, pc, qc, rfl, rfl, rfl, HB7.out, hRB, raw_sub HP7.out (fun f hf => List.mem_cons_of_mem _ hf), raw_sub HQ7.out (fun f hf => List.mem_cons_of_mem _ hf), raw_sub HJ7.out (fun f hf => List.mem_cons_of_mem _ hf), HS7.out, HR7.out, HT7.out, bel7, hz7⟩
      · (try simp only [Txt.pick, List.getElem?_cons_succ, List.getElem?_cons_zero])
        go_wp2
        obtain ⟨B, hB⟩ : ∃ O, O = w3.heap.size := ⟨_, rfl⟩
        obtain ⟨w4, hw4⟩ : ∃ W, W = w3.alloc (.cells #[.int .i64 0, .slice none 0 0] 24) := ⟨_, rfl⟩
        have hb4 : Below w3.heap.size w3 w4 := by rw [hw4]; exact (Below.refl _ _).alloc (Nat.le_refl _) _
        have hxB : w4.heap[B]? = some (.cells #[.int .i64 0, .slice none 0 0] 24 (0, 0)) := by rw [hw4, hB]; exact heap_alloc_new w3 _
        rw [← hw4, ← hB]
        have hlB : w3.heap.size ≤ B := by omega
        have lt_S_B : S < B := Nat.lt_of_lt_of_le (Array.getElem?_eq_some_iff.1 HS3.out).1 hlB
        have lt_R_B : R < B := Nat.lt_of_lt_of_le (Array.getElem?_eq_some_iff.1 HR3.out).1 hlB
        have lt_T_B : T < B := Nat.lt_of_lt_of_le (Array.getElem?_eq_some_iff.1 HT3.out).1 hlB
        replace HI3 := Lib.hid (raw_new HI3.out hB)
        replace HJ3 := Lib.hid (raw_new HJ3.out hB)
        clear hw4 hB
        have HS4 := Lib.hid ((hb4.block S (Array.getElem?_eq_some_iff.1 HS3.out).1).trans HS3.out)
        have HR4 := Lib.hid ((hb4.block R (Array.getElem?_eq_some_iff.1 HR3.out).1).trans HR3.out)
        have HI4 := Lib.hid (Raw.below HI3.out hb4)
        have HJ4 := Lib.hid (Raw.below HJ3.out hb4)
        have HT4 := Lib.hid ((hb4.block T (Array.getElem?_eq_some_iff.1 HT3.out).1).trans HT3.out)
        have HSB4 := Lib.hid (same_below' HSB3.out hb4)
        have bel4 := bel3.trans (hb4.mono bel3.size)
        have hz4 := Nat.le_trans hz3 hb4.size
        clear HS3 HR3 HI3 HJ3 HT3
        have HB4 := Lib.hid (hxB)
        clear hb4 hxB
        have hRB : R < B := by omega
        refine Txt.SegPost.mk (Txt.Ty.Shown.same HSB4.out) ?_
        (try simp only [Txt.pick, List.getElem?_cons_succ, List.getElem?_cons_zero])
        go_wp2
        refine Txt.RunPost.mk ?_
        refine Txt.Ty.wpTr_alt ?_ Txt.Ty.wpTr_no
        (try simp only [Txt.pick, List.getElem?_cons_succ, List.getElem?_cons_zero])
        go_wp2_with fail
        refine (rcomps_any _).mono ?_
        rintro e w5 ⟨v5, rfl, hc5, hb5⟩
        have HS5 := Lib.hid ((hb5.block S (Array.getElem?_eq_some_iff.1 HS4.out).1).trans HS4.out)
        have HR5 := Lib.hid ((hb5.block R (Array.getElem?_eq_some_iff.1 HR4.out).1).trans HR4.out)
        have HI5 := Lib.hid (Raw.below HI4.out hb5)
        have HJ5 := Lib.hid (Raw.below HJ4.out hb5)
        have HT5 := Lib.hid ((hb5.block T (Array.getElem?_eq_some_iff.1 HT4.out).1).trans HT4.out)
        have HB5 := Lib.hid ((hb5.block B (Array.getElem?_eq_some_iff.1 HB4.out).1).trans HB4.out)
        have HSB5 := Lib.hid (same_below' HSB4.out hb5)
        have bel5 := bel4.trans (hb5.mono bel4.size)
        have hz5 := Nat.le_trans hz4 hb5.size
        clear HS4 HR4 HI4 HJ4 HT4 HB4
        have HU5 : Hid (Ints [] w5 v5 comps) := Lib.hid (Ints.of_own hc5)
        obtain ⟨ua, uc, rfl⟩ := own_slice hc5
        clear hc5 hb5
        go_wp2
        refine Txt.SegPost.mk (Txt.Ty.Shown.same HSB5.out) ?_
        (try simp only [Txt.pick, List.getElem?_cons_succ, List.getElem?_cons_zero])
        go_wp2
        refine Txt.RunPost.mk ?_
        refine Txt.Ty.wpTr_alt ?_ Txt.Ty.wpTr_no
        (try simp only [Txt.pick, List.getElem?_cons_succ, List.getElem?_cons_zero])
        have hBn5 := (Array.getElem?_eq_some_iff.1 HB5.out).1
        go_wp2_with fail
        refine (rping_any x.r _ _ x.wt w5 (by omega) (Raw.to_nil HI5.out) HU5.out HOK.out.b).mono ?_
        rintro e w6 ⟨hb6, hres⟩
        have HS6 := Lib.hid ((hb6.block S (Array.getElem?_eq_some_iff.1 HS5.out).1).trans HS5.out)
        have HR6 := Lib.hid ((hb6.block R (Array.getElem?_eq_some_iff.1 HR5.out).1).trans HR5.out)
        have HI6 := Lib.hid (Raw.below HI5.out hb6)
        have HJ6 := Lib.hid (Raw.below HJ5.out hb6)
        have HT6 := Lib.hid ((hb6.block T (Array.getElem?_eq_some_iff.1 HT5.out).1).trans HT5.out)
        have HB6 := Lib.hid ((hb6.block B (Array.getElem?_eq_some_iff.1 HB5.out).1).trans HB5.out)
        have HU6 := Lib.hid (Raw.below HU5.out hb6)
        have HSB6 := Lib.hid (same_below' HSB5.out hb6)
        have bel6 := bel5.trans (hb6.mono bel5.size)
        have hz6 := Nat.le_trans hz5 hb6.size
        clear HS5 HR5 HI5 HJ5 HT5 HB5 HU5
        clear HU6
        rw [if_pos (by have := HLT.out; omega)] at hres
        obtain ⟨pv, qv, rfl, hp, hq⟩ := hres
        obtain ⟨pa, pc, rfl⟩ := Raw.slice hp
        obtain ⟨qa, qc, rfl⟩ := Raw.slice hq
        have hrg : ∀ f ∈ B :: S :: R :: F, f < w5.heap.size := fun f hf => by
          rcases List.mem_cons.1 hf with h | h
          · rw [h]; exact hBn5
          · have := hSRF.out f h; omega
        have HP6 := Lib.hid (raw_range hp hrg)
        have HQ6 := Lib.hid (raw_range hq hrg)
        clear hp hq hrg
        clear hb6
        go_wp2
        refine Txt.SegPost.mk (Txt.Ty.Shown.same HSB6.out) ?_
        (try simp only [Txt.pick, List.getElem?_cons_succ, List.getElem?_cons_zero])
        go_wp2
        refine Txt.RunPost.mk ?_
        refine Txt.Ty.wpTr_alt ?_ Txt.Ty.wpTr_no
        (try simp only [Txt.pick, List.getElem?_cons_succ, List.getElem?_cons_zero])
        have cB_0 := box_at HB6.out (j := 0) rfl
        have fB_0 := box_free HB6.out 0
        have cB_1 := box_at HB6.out (j := 1) rfl
        have fB_1 := box_free HB6.out 1
        go_wp2
        clear cB_0 fB_0 cB_1 fB_1
        have hwB : w.heap.size ≤ B := by omega
        obtain ⟨w7, hw7⟩ : ∃ Y, Y = ((w6.setCell ⟨B, 0, none⟩ (.int .i64 (x.r + 1))).setCell ⟨B, 1, none⟩ (.slice pa comps.length pc)) := ⟨_, rfl⟩
        have hk7 : Keep [B] w6 w7 := by rw [hw7]; exact keep_set2 w6 B _ _
        have hx7 := heap_put2 HB6.out (.int .i64 (x.r + 1)) (.slice pa comps.length pc)
        rw [← hw7] at hx7
        have HS7 := Lib.hid ((hk7.block S (Array.getElem?_eq_some_iff.1 HS6.out).1 (by simp only [List.mem_singleton]; omega)).trans HS6.out)
        have HR7 := Lib.hid ((hk7.block R (Array.getElem?_eq_some_iff.1 HR6.out).1 (by simp only [List.mem_singleton]; omega)).trans HR6.out)
        have HI7 := Lib.hid (raw_set HI6.out hk7 (fun f hf => by rw [List.mem_singleton.1 hf]; simp))
        have HJ7 := Lib.hid (raw_set HJ6.out hk7 (fun f hf => by rw [List.mem_singleton.1 hf]; simp))
        have HT7 := Lib.hid ((hk7.block T (Array.getElem?_eq_some_iff.1 HT6.out).1 (by simp only [List.mem_singleton]; omega)).trans HT6.out)
        have HB7 := Lib.hid hx7
        have HP7 := Lib.hid (raw_set HP6.out hk7 (fun f hf => by rw [List.mem_singleton.1 hf]; simp))
        have HQ7 := Lib.hid (raw_set HQ6.out hk7 (fun f hf => by rw [List.mem_singleton.1 hf]; simp))
        have bel7 := bel6.trans (hk7.below bel6.size (fun f hf => by rw [List.mem_singleton.1 hf]; exact hwB))
        have hz7 := Nat.le_trans hz6 hk7.size
        clear hx7
        clear HS6 HR6 HI6 HJ6 HT6 HB6 HP6 HQ6
        rw [← hw7]
        clear hw7
        clear HSB6
        refine Txt.SegPost.mk (Txt.Ty.Shown.last rfl) ?_
        (try simp only [Txt.pick, List.getElem?_cons_succ, List.getElem?_cons_zero])
        go_wp2
        refine Txt.RunPost.mk ?_
        refine Txt.Ty.wpTr_done (by rfl) ⟨.head _, trivial⟩ ?_
        go_wp2
        go_meet
        case rel => exact ⟨B, pa, qa, pc, qc, rfl, rfl, rfl, HB7.out, hRB, raw_sub HP7.out (fun f hf => List.mem_cons_of_mem _ hf), raw_sub HQ7.out (fun f hf => List.mem_cons_of_mem _ hf), raw_sub HJ7.out (fun f hf => List.mem_cons_of_mem _ hf), HS7.out, HR7.out, HT7.out, bel7, hz7⟩
    case rest =>
      obtain ⟨B, pa, qa, pc, qc, rfl, rfl, rfl, hB, hRB, hP, hQ, hJ, hS, hR, hT, bel3, hz3⟩ := hcut
      rename World => w3
      have HB3 := Lib.hid hB; have HP3 := Lib.hid hP; have HO3 := Lib.hid hQ; have HJ3 := Lib.hid hJ; have HS3 := Lib.hid hS; have HR3 := Lib.hid hR; have HT3 := Lib.hid hT
      clear hB hP hQ hJ hS hR hT
      have cB_0 := box_at HB3.out (j := 0) rfl
      have cB_1 := box_at HB3.out (j := 1) rfl
      have cS_0 := box_at HS3.out (j := 0) rfl
      have fS_0 := box_free HS3.out 0
      have cS_1 := box_at HS3.out (j := 1) rfl
      have fS_1 := box_free HS3.out 1
      have cS_2 := box_at HS3.out (j := 2) rfl
      have fS_2 := box_free HS3.out 2
      go_upto_region 6 with (fail)
      clear cB_0 cB_1 cS_0 fS_0 cS_1 fS_1 cS_2 fS_2
      obtain ⟨w4, hw4⟩ : ∃ Y, Y = ((w3.setCell ⟨S, 0, none⟩ (.int .i64 (x.r + 1))).setCell ⟨S, 1, none⟩ (.slice pa comps.length pc)) := ⟨_, rfl⟩
      have hk4 : Keep [S] w3 w4 := by rw [hw4]; exact keep_set2 w3 S _ _
      have hx4 := heap_put01 HS3.out (.int .i64 (x.r + 1)) (.slice pa comps.length pc)
      rw [← hw4] at hx4
      have HB4 := Lib.hid ((hk4.block B (Array.getElem?_eq_some_iff.1 HB3.out).1 (by simp only [List.mem_singleton]; omega)).trans HB3.out)
      have HS4 := Lib.hid hx4
      have HR4 := Lib.hid ((hk4.block R (Array.getElem?_eq_some_iff.1 HR3.out).1 (by simp only [List.mem_singleton]; omega)).trans HR3.out)
      have HT4 := Lib.hid ((hk4.block T (Array.getElem?_eq_some_iff.1 HT3.out).1 (by simp only [List.mem_singleton]; omega)).trans HT3.out)
      have HP4 := Lib.hid (raw_set HP3.out hk4 (fun f hf => by rw [List.mem_singleton.1 hf]; simp))
      have HO4 := Lib.hid (raw_set HO3.out hk4 (fun f hf => by rw [List.mem_singleton.1 hf]; simp))
      have HJ4 := Lib.hid (raw_set HJ3.out hk4 (fun f hf => by rw [List.mem_singleton.1 hf]; simp))
      have bel4 := bel3.trans (hk4.below bel3.size (fun f hf => by rw [List.mem_singleton.1 hf]; exact hwS))
      have hz4 := Nat.le_trans hz3 hk4.size
      clear hx4
      clear HB3 HS3 HR3 HT3 HP3 HO3 HJ3
      rw [← hw4]
      clear hw4
      obtain ⟨u, hu⟩ : ∃ u, u = w4 := ⟨_, rfl⟩
      rw [← hu]
      rw [← hu] at HB4 HS4 HR4 HT4 HP4 HO4 HJ4 bel4 hz4
      have HA0 : Hid (AlAt 27 58 u u S R F (x.r + 1) (.slice pa comps.length pc) (.slice ha x.hs.length hc) (.slice none 0 0) (.slice none 0 0) x.hs [] []) := Lib.hid ⟨Keep.refl _ _, HS4.out, HJ4.out, World.ownsRow_nil _ _ _ _, World.ownsRow_nil _ _ _ _, by omega⟩
      have hBu := (Array.getElem?_eq_some_iff.1 HB4.out).1
      have hTu := (Array.getElem?_eq_some_iff.1 HT4.out).1
      have hSu : S < u.heap.size := by omega
      have hRu : R < u.heap.size := by omega
      have HU := Lib.hid hu
      clear hu HS4 HJ4 hk4
      go_wp2
      go_loopw [8, 9] (fun ov i wr => ∃ (k : Nat) (ka : Option Addr) (kc : Nat) (hsl : List Hs) (es : List Ef), k ≤ x.wt.length ∧ i = .int .i64 k ∧ hsl = (x.wt.take k).foldl (fun h t => failH h t 7) x.hs ∧ es = ((x.wt.take k).map (fun t => rstE t 1)) ∧ AlAt 27 58 u wr S R F (x.r + 1) (.slice pa comps.length pc) (.slice ka hsl.length kc) ov (.slice none 0 0) hsl es []) (fun _ i _ => x.wt.length - (intOf i).toNat)
      case atStart => exact ⟨0, ha, hc, x.hs, [], Nat.zero_le _, rfl, by simp, by simp, HA0.out⟩
      case round =>
        clear HA0
        obtain ⟨k, ka, kc, hsl, es, hk, rfl, hhs, hes, hA⟩ := hrel
        obtain ⟨oa, oc, rfl⟩ := own_slice hA.oo
        have hesl : es.length = k := by rw [hes]; simp; omega
        have hvh : validH hsl = true := by rw [hhs]; exact fold_valid _ _ HOK.out.h (fun y hy => HOK.out.w y (List.mem_of_mem_take hy))
        have HVH := Lib.hid hvh; have HHS := Lib.hid hhs; have HES := Lib.hid hes; have HA := Lib.hid hA; have HEL := Lib.hid hesl
        clear hvh hhs hes hA hesl
        by_cases hlt : k < x.wt.length
        · have HQr : Hid (Ints (S :: R :: F) wr (.slice qa x.wt.length qc) x.wt) := Lib.hid (HA.out.row HO4.out)
          obtain ⟨q1, o1, q1c, hqe, hq1, -⟩ := Ints.elem HQr.out hlt
          cases hqe
          obtain ⟨z, hz⟩ : ∃ z, x.wt[k] = z := ⟨_, rfl⟩
          have HZ := Lib.hid hz
          clear hz
          go_upto_region 10 with (fail)
          have hBl : ∀ q ∈ ([] : List Nat), ∃ cc e f, wr.heap[q]? = some (.cells cc e f) := fun q hq => by cases hq
          refine Txt.Ty.wp_tree [] [] [] [0, 4] [0, 1, 2, 3, 4] (.alt [5] (.alt [6] (.done) (.no)) (.no)) (by kernel_rfl) (by kernel_rfl) (by kernel_rfl) (by kernel_rfl) hBl ?_
          obtain ⟨y0, hy0⟩ : ∃ y, y = wr.drew := ⟨_, rfl⟩
          clear hBl
          rw [← hy0]
          have hd : Below wr.heap.size wr y0 := by rw [hy0]; exact (Below.refl _ _).drew
          have HA0 := Lib.hid (HA.out.below hd)
          have HQ0 := Lib.hid (Raw.below HQr.out hd)
          clear hy0 hd HA HQr
          have s0 := box_at HA0.out.sx (j := 0) rfl
          have s1 := box_at HA0.out.sx (j := 1) rfl
          have s2 := box_at HA0.out.sx (j := 2) rfl
          obtain ⟨_, _, _, hqe, -, h0⟩ := Ints.elem HQ0.out hlt
          cases hqe
          rw [HZ.out] at h0
          (try simp only [Txt.pick, List.getElem?_cons_succ, List.getElem?_cons_zero])
          go_wp2
          refine Txt.RunPost.mk ?_
          refine Txt.Ty.wpTr_alt ?_ Txt.Ty.wpTr_no
          (try simp only [Txt.pick, List.getElem?_cons_succ, List.getElem?_cons_zero])
          go_wp2_with fail
          refine (rfailed_any ⟨x.r + 1, comps, hsl⟩ _ _ z 7 y0 HVH.out (Raw.to_nil HA0.out.hh) ⟨_, _, _, rfl⟩).mono ?_
          rintro e y1 ⟨hv', rfl, hfr, hb1⟩
          obtain ⟨ja, jc, rfl⟩ := Raw.slice hfr
          have hz0 := HA0.out.kp.size
          have hfl : ∀ f ∈ S :: R :: F, f < y0.heap.size := fun f hf => by have := hSRF.out f hf; omega
          have HA1 := Lib.hid (HA0.out.fail hb1 hfl hfr)
          have HQ1 : Hid (Ints (S :: R :: F) (((y1.setCell ⟨S, 0, none⟩ (.int .i64 (x.r + 1))).setCell ⟨S, 1, none⟩ (.slice pa comps.length pc)).setCell ⟨S, 2, none⟩ (.slice ja (failH hsl z 7).length jc)) (.slice (some ⟨q1, o1, none⟩) x.wt.length qc) x.wt) := Lib.hid (HA1.out.row HO4.out)
          have hs1 := (hb1.block S HA0.out.lt).trans HA0.out.sx
          clear hfr hb1 hfl s0 s1 s2 h0 HA0 HQ0
          have s0 := box_at hs1 (j := 0) rfl
          have s1 := box_at hs1 (j := 1) rfl
          have s2 := box_at hs1 (j := 2) rfl
          have g0 := box_free hs1 0
          have g1 := box_free hs1 1
          have g2 := box_free hs1 2
          clear hs1
          obtain ⟨y2, hy2⟩ : ∃ y, y = (((y1.setCell ⟨S, 0, none⟩ (.int .i64 (x.r + 1))).setCell ⟨S, 1, none⟩ (.slice pa comps.length pc)).setCell ⟨S, 2, none⟩ (.slice ja (failH hsl z 7).length jc)) := ⟨_, rfl⟩
          rw [← hy2] at HA1 HQ1
          have HY2 := Lib.hid hy2
          clear hy2
          go_wp2
          refine Txt.SegPost.mk (Txt.Ty.Shown.none) ?_
          (try simp only [Txt.pick, List.getElem?_cons_succ, List.getElem?_cons_zero])
          go_wp2
          refine Txt.RunPost.mk ?_
          refine Txt.Ty.wpTr_alt ?_ Txt.Ty.wpTr_no
          (try simp only [Txt.pick, List.getElem?_cons_succ, List.getElem?_cons_zero])
          go_wp2
          rw [← HY2.out]
          clear HY2 s0 s1 s2 g0 g1 g2
          refine Txt.SegPost.mk (Txt.Ty.Shown.none) ?_
          (try simp only [Txt.pick, List.getElem?_cons_succ, List.getElem?_cons_zero])
          go_wp2
          refine Txt.RunPost.mk ?_
          refine Txt.Ty.wpTr_done (by rfl) trivial ?_
          obtain ⟨_, _, _, hqe, -, h0⟩ := Ints.elem HQ1.out hlt
          cases hqe
          rw [HZ.out] at h0
          have hal := (Below.refl y2.heap.size y2).alloc (Nat.le_refl _) (.cells #[.int .i64 16, .int .i64 z, .int .i64 1, .int .i64 0, .int .i64 0, .int .i64 0, .int .i64 0, .int .i64 0, .int .i64 0, .int .i64 0, .int .i64 0, .int .i64 0, .int .i64 0, .slice none 0 0, .slice none 0 0] 58)
          have HA2 := Lib.hid (HA1.out.below hal)
          have HXr := Lib.hid (boxEf y2.heap.size (rstE z 1) (heap_alloc_new y2 (.cells #[.int .i64 16, .int .i64 z, .int .i64 1, .int .i64 0, .int .i64 0, .int .i64 0, .int .i64 0, .int .i64 0, .int .i64 0, .int .i64 0, .int .i64 0, .int .i64 0, .int .i64 0, .slice none 0 0, .slice none 0 0] 58)))
          have hu2 := HA2.out.kp.size
          have hel : es.length ≤ 9 := by have := HEL.out; omega
          clear hal HA1
          go_wp2_with (at_builtin; refine wpList_appF elEf Tryz.underlying34 HA2.out.oo HXr.out (Below.refl u.heap.size _) rfl _ _ rfl rfl rfl ?d3 ?dB ?d5 ?_)
          all_goals try (first | exact Nat.le_refl _ | omega | exact hu2 | (have := hu2; simp at this; omega))
          intro v3 y3 hown3 hbu3 hk3 hn3
          obtain ⟨a3, c3, rfl⟩ := own_slice hown3
          have HA3 := Lib.hid (HA2.out.push (x := rstE z 1) (by decide) hown3 hk3 (by simpa using hn3))
          clear hown3 hbu3 hk3 hn3 HA2 HXr HQ1 h0 hu2 hel
          go_wp2
          go_roundw
          case rel =>
            have htk : x.wt.take (k + 1) = x.wt.take k ++ [z] := by rw [← List.take_append_getElem hlt, HZ.out]
            exact ⟨k + 1, ja, jc, failH hsl z 7, es ++ [rstE z 1], hlt, by go_num, by rw [htk, List.foldl_append, ← HHS.out]; rfl, by rw [htk, List.map_append, ← HES.out]; rfl, by have := HA3.out; simpa using this⟩
          case measure => simp [intOf]; omega
        · obtain rfl : k = x.wt.length := by omega
          rw [List.take_length] at HHS HES
          go_wp2_with fail
          refine (rcomps_any wr).mono ?_
          rintro e y1 ⟨gv, rfl, hgg, hb1⟩
          obtain ⟨ga, gc, rfl⟩ := own_slice hgg
          have HA1 := Lib.hid (HA.out.comps hb1 hgg)
          have hc9 : comps.length ≤ 9 := Nat.le_of_eq comps_len
          have hwl : es.length ≤ 9 := by have := HEL.out; omega
          clear hgg hb1 HA hk hlt
          go_wp2
          go_loopw [8, 11] (fun ov i wr => ∃ (k : Nat) (es2 : List Ef), k ≤ comps.length ∧ i = .int .i64 k ∧ es2 = es ++ (comps.take k).map (pingE (x.r + 1)) ∧ AlAt 27 58 u wr S R F (x.r + 1) (.slice pa comps.length pc) (.slice ka hsl.length kc) ov (.slice ga comps.length gc) hsl es2 comps) (fun _ i _ => comps.length - (intOf i).toNat)
          case atStart => exact ⟨0, es, Nat.zero_le _, rfl, by simp, HA1.out⟩
          case round =>
            clear HA1
            obtain ⟨k, es2, hk, rfl, hes2, hA⟩ := hrel
            obtain ⟨oa, oc, rfl⟩ := own_slice hA.oo
            have hesl : es2.length ≤ 20 := by rw [hes2]; simp; omega
            have HE2 := Lib.hid hes2; have HA := Lib.hid hA; have HEL2 := Lib.hid hesl
            clear hes2 hA hesl
            by_cases hlt : k < comps.length
            · obtain ⟨z, hz⟩ : ∃ z, comps[k] = z := ⟨_, rfl⟩
              have HZ := Lib.hid hz
              clear hz
              have hgi := Ints.of_own HA.out.gg
              obtain ⟨q2, o2, q2c, hqe, hq2, -⟩ := Ints.elem hgi hlt
              cases hqe
              clear hgi
              go_upto_region 16 with (fail)
              have hBl : ∀ q ∈ ([] : List Nat), ∃ cc e f, wr.heap[q]? = some (.cells cc e f) := fun q hq => by cases hq
              refine Txt.Ty.wp_tree [] [] [] [4, 6] [0, 1, 2, 3, 4, 5, 6, 7, 8, 9] (.alt [10] (.alt [11, 12] (.done) (.no)) (.no)) (by kernel_rfl) (by kernel_rfl) (by kernel_rfl) (by kernel_rfl) hBl ?_
              obtain ⟨y0, hy0⟩ : ∃ y, y = wr.drew := ⟨_, rfl⟩
              clear hBl
              rw [← hy0]
              have hd : Below wr.heap.size wr y0 := by rw [hy0]; exact (Below.refl _ _).drew
              have HA0 := Lib.hid (HA.out.below hd)
              clear hy0 hd HA
              obtain ⟨_, _, _, hqe, -, h0⟩ := Ints.elem (Ints.of_own HA0.out.gg) hlt
              cases hqe
              rw [HZ.out] at h0
              have hb2 := HA0.out.block HB4.out (by omega)
              have b0 := box_at hb2 (j := 0) rfl
              clear hb2
              (try simp only [Txt.pick, List.getElem?_cons_succ, List.getElem?_cons_zero])
              go_wp2
              refine Txt.RunPost.mk ?_
              refine Txt.Ty.wpTr_alt ?_ Txt.Ty.wpTr_no
              (try simp only [Txt.pick, List.getElem?_cons_succ, List.getElem?_cons_zero])
              clear h0 b0
              go_wp2
              obtain ⟨y1', hy1⟩ : ∃ y, y = y0.alloc (.cells #[.int .i64 1, .int .i64 0, .int .i64 0, .int .i64 0, .int .i64 0, .int .i64 0, .int .i64 z, .int .i64 6, .int .i64 0, .int .i64 (x.r + 1), .int .i64 0, .int .i64 0, .int .i64 0, .slice none 0 0, .slice none 0 0] 58) := ⟨_, rfl⟩
              rw [← hy1]
              obtain ⟨Y, hY⟩ : ∃ Y, Y = y0.heap.size := ⟨_, rfl⟩
              rw [← hY]
              have hal : Below y0.heap.size y0 y1' := by rw [hy1]; exact (Below.refl _ _).alloc (Nat.le_refl _) _
              have HA1 := Lib.hid (HA0.out.below hal)
              have hYb : y1'.heap[Y]? = some (.cells #[.int .i64 1, .int .i64 0, .int .i64 0, .int .i64 0, .int .i64 0, .int .i64 0, .int .i64 z, .int .i64 6, .int .i64 0, .int .i64 (x.r + 1), .int .i64 0, .int .i64 0, .int .i64 0, .slice none 0 0, .slice none 0 0] 58 (0, 0)) := by rw [hy1, hY]; exact heap_alloc_new y0 _
              have HXr := Lib.hid (boxEf Y (pingE (x.r + 1) z) hYb)
              have hu1 := HA1.out.kp.size
              clear hal hYb hy1 hY HA0
              refine Txt.SegPost.mk (Txt.Ty.Shown.none) ?_
              (try simp only [Txt.pick, List.getElem?_cons_succ, List.getElem?_cons_zero])
              go_wp2
              refine Txt.RunPost.mk ?_
              refine Txt.Ty.wpTr_alt ?_ Txt.Ty.wpTr_no
              (try simp only [Txt.pick, List.getElem?_cons_succ, List.getElem?_cons_zero])
              have hel2 := HEL2.out
              go_wp2_with (at_builtin; refine wpList_appF elEf Tryz.underlying34 HA1.out.oo HXr.out (Below.refl u.heap.size _) rfl _ _ rfl rfl rfl ?e3 ?eB ?e5 ?_)
              all_goals try (first | exact Nat.le_refl _ | omega | exact hu1)
              intro v3 y3 hown3 hbu3 hk3 hn3
              obtain ⟨a3, c3, rfl⟩ := own_slice hown3
              have HA3 := Lib.hid (HA1.out.push (x := pingE (x.r + 1) z) (by decide) hown3 hk3 (by simpa using hn3))
              clear hown3 hbu3 hk3 hn3 HA1 HXr hu1 hel2
              go_wp2
              refine Txt.SegPost.mk (Txt.Ty.Shown.none) ?_
              (try simp only [Txt.pick, List.getElem?_cons_succ, List.getElem?_cons_zero])
              go_wp2
              refine Txt.RunPost.mk ?_
              refine Txt.Ty.wpTr_done (by rfl) trivial ?_
              go_wp2
              go_roundw
              case rel =>
                have htk : comps.take (k + 1) = comps.take k ++ [z] := by rw [← List.take_append_getElem hlt, HZ.out]
                exact ⟨k + 1, es2 ++ [pingE (x.r + 1) z], hlt, by go_num, by rw [htk, List.map_append, ← List.append_assoc, ← HE2.out]; rfl, by have := HA3.out; simpa using this⟩
              case measure => simp [intOf]; omega
            · obtain rfl : k = comps.length := by omega
              rw [List.take_length] at HE2
              clear hlt hk
              go_upto_region 17 with (fail)
              have hBl : ∀ q ∈ [S], ∃ cc e f, wr.heap[q]? = some (.cells cc e f) := fun q hq => by rw [List.mem_singleton.1 hq]; exact ⟨_, _, _, HA.out.sx⟩
              refine Txt.Ty.wp_tree [S] [0] [5] [0, 2] [0, 1, 2] (.alt [3] (.alt [4] (.alt [5, 6] (.done) (.no)) (.no)) (.no)) (by kernel_rfl) (by kernel_rfl) (by kernel_rfl) (by kernel_rfl) hBl ?_
              obtain ⟨y0, hy0⟩ : ∃ y, y = wr.drew := ⟨_, rfl⟩
              have HQ0 : Hid (Txt.SameB [S] y0 y0) := Lib.hid (by rw [hy0]; exact same_start hBl)
              clear hBl
              rw [← hy0]
              have hd : Below wr.heap.size wr y0 := by rw [hy0]; exact (Below.refl _ _).drew
              have HA0 := Lib.hid (HA.out.below hd)
              clear hy0 hd HA
              have s0 := box_at HA0.out.sx (j := 0) rfl
              have s1 := box_at HA0.out.sx (j := 1) rfl
              have s2 := box_at HA0.out.sx (j := 2) rfl
              have ht := HA0.out.block HT4.out (by omega)
              have t0 := box_at ht (j := 0) rfl
              have t1 := box_at ht (j := 1) rfl
              have t2 := box_at ht (j := 2) rfl
              have t3 := box_at ht (j := 3) rfl
              have t4 := box_at ht (j := 4) rfl
              have t5 := box_at ht (j := 5) rfl
              have t6 := box_at ht (j := 6) rfl
              have t7 := box_at ht (j := 7) rfl
              have t8 := box_at ht (j := 8) rfl
              have t9 := box_at ht (j := 9) rfl
              have t10 := box_at ht (j := 10) rfl
              have t11 := box_at ht (j := 11) rfl
              have t12 := box_at ht (j := 12) rfl
              have t13 := box_at ht (j := 13) rfl
              have t14 := box_at ht (j := 14) rfl
              clear ht
              (try simp only [Txt.pick, List.getElem?_cons_succ, List.getElem?_cons_zero])
              go_wp2
              refine Txt.RunPost.mk ?_
              refine Txt.Ty.wpTr_alt ?_ Txt.Ty.wpTr_no
              (try simp only [Txt.pick, List.getElem?_cons_succ, List.getElem?_cons_zero])
              clear s0 s1 s2 t0 t1 t2 t3 t4 t5 t6 t7 t8 t9 t10 t11 t12 t13 t14
              go_wp2
              obtain ⟨y1', hy1⟩ : ∃ y, y = y0.alloc (.cells #[.int .i64 4, .int .i64 64, .int .i64 1, .int .i64 0, .int .i64 0, .int .i64 0, .int .i64 0, .int .i64 0, .int .i64 0, .int .i64 0, .int .i64 0, .int .i64 0, .int .i64 0, .slice none 0 0, .slice none 0 0] 58) := ⟨_, rfl⟩
              rw [← hy1]
              obtain ⟨Y, hY⟩ : ∃ Y, Y = y0.heap.size := ⟨_, rfl⟩
              rw [← hY]
              have hal : Below y0.heap.size y0 y1' := by rw [hy1]; exact (Below.refl _ _).alloc (Nat.le_refl _) _
              have HA1 := Lib.hid (HA0.out.below hal)
              have HQ1 := Lib.hid (same_below' HQ0.out hal)
              have hYb : y1'.heap[Y]? = some (.cells #[.int .i64 4, .int .i64 64, .int .i64 1, .int .i64 0, .int .i64 0, .int .i64 0, .int .i64 0, .int .i64 0, .int .i64 0, .int .i64 0, .int .i64 0, .int .i64 0, .int .i64 0, .slice none 0 0, .slice none 0 0] 58 (0, 0)) := by rw [hy1, hY]; exact heap_alloc_new y0 _
              have HXr := Lib.hid (boxEf Y timE hYb)
              have hu1 := HA1.out.kp.size
              clear hal hYb hy1 hY HA0 HQ0
              refine Txt.SegPost.mk (Txt.Ty.Shown.same HQ1.out) ?_
              (try simp only [Txt.pick, List.getElem?_cons_succ, List.getElem?_cons_zero])
              go_wp2
              refine Txt.RunPost.mk ?_
              refine Txt.Ty.wpTr_alt ?_ Txt.Ty.wpTr_no
              (try simp only [Txt.pick, List.getElem?_cons_succ, List.getElem?_cons_zero])
              have hel2 := HEL2.out
              go_wp2_with (at_builtin; refine wpList_appF elEf Tryz.underlying34 HA1.out.oo HXr.out (Below.refl u.heap.size _) rfl _ _ rfl rfl rfl ?f3 ?fB ?f5 ?_)
              all_goals try (first | exact Nat.le_refl _ | omega | exact hu1)
              intro v3 y3 hown3 hbu3 hk3 hn3
              obtain ⟨a3, c3, rfl⟩ := own_slice hown3
              have HA3 := Lib.hid (HA1.out.push (x := timE) (by decide) hown3 hk3 (by simpa using hn3))
              have hlow := HA1.out.low
              have HQ3 := Lib.hid (same_keep HQ1.out hk3 (fun q hq hm => by have := hlow q (by simpa using hm); rw [List.mem_singleton] at hq; omega))
              have hr3 := HA3.out.block HR4.out (by omega)
              have r0 := box_at hr3 (j := 0) rfl
              have r1 := box_at hr3 (j := 1) rfl
              have r2 := box_at hr3 (j := 2) rfl
              have g0 := box_free hr3 0
              have g1 := box_free hr3 1
              have g2 := box_free hr3 2
              have HR3 := Lib.hid hr3
              clear hown3 hbu3 hk3 hn3 HA1 HXr hu1 hel2 hlow HQ1 hr3
              go_wp2
              refine Txt.SegPost.mk (Txt.Ty.Shown.same HQ3.out) ?_
              (try simp only [Txt.pick, List.getElem?_cons_succ, List.getElem?_cons_zero])
              go_wp2
              refine Txt.RunPost.mk ?_
              refine Txt.Ty.wpTr_alt ?_ Txt.Ty.wpTr_no
              (try simp only [Txt.pick, List.getElem?_cons_succ, List.getElem?_cons_zero])
              go_wp2
              refine Txt.SegPost.mk (Txt.Ty.Shown.last rfl) ?_
              (try simp only [Txt.pick, List.getElem?_cons_succ, List.getElem?_cons_zero])
              go_wp2
              refine Txt.RunPost.mk ?_
              refine Txt.Ty.wpTr_done (by rfl) ⟨.head _, trivial⟩ ?_
              go_wp2
              refine bodyPost_ret (results_ct rfl _ _ _ _ _ _ _ rfl (heap_set3 HR3.out _ _ _) Tryz.underlying27 rfl (by kernel_rfl)) rfl ?_
              have hk := keep_set3 y3 R (.int .i64 (x.r + 1)) (.slice pa comps.length pc) (.slice ka hsl.length kc)
              have hbu : Below w.heap.size w y3 := bel4.trans (HA3.out.kp.below bel4.size (fun f hf => by rw [List.mem_singleton.1 hf]; exact hwS))
              refine ⟨hbu.trans (hk.below hbu.size (fun f hf => by rw [List.mem_singleton.1 hf]; exact hwR)), ?_⟩
              rw [HAL.out]
              have hoo := own_keep HA3.out.oo hk (fun q hq hm => by have := (HA3.out.oo.lt q hq).1; rw [List.mem_singleton] at hm; omega)
              refine ⟨_, _, _, rfl, ?_, ?_, ?_⟩
              · exact raw_sub (raw_set (HA3.out.row HP4.out) hk (fun f hf => by rw [List.mem_singleton.1 hf]; simp)) (fun f hf => by simp [hf])
              · dsimp only
                rw [← HHS.out]
                exact raw_sub (raw_set HA3.out.hh hk (fun f hf => by rw [List.mem_singleton.1 hf]; simp)) (fun f hf => by simp [hf])
              · have he : (x.wt.map (fun t => rstE t 1)) ++ (comps.map (pingE (x.r + 1)) ++ [timE]) = es2 ++ [timE] := by rw [HE2.out, HES.out, List.append_assoc]
                dsimp only
                rw [he]
                have := Raw.of_own hoo (encE_one _) (F := F) (fun f hf => by have := hSRF.out f (by simp [hf]); omega)
                simpa using this
  · have HLT := Lib.hid hlt
    have HAL : Hid (alarmV x = (x, [timE])) := Lib.hid (by unfold alarmV; rw [if_neg hlt])
    clear hlt hr0 hr1
    go_upto_region 2 with (fail)
    go_cut [5, 6, 7] from 14 to 21 (fun s5 s6 s7 wx => ∃ (B : Nat) (qa : Option Addr) (qn qc : Nat), s5 = .pointer (some ⟨B, 0, none⟩) ∧ s6 = .slice qa qn qc ∧ s7 = .int .i64 6 ∧ Ints (S :: R :: F) wx (.slice wa x.wt.length wc) x.wt ∧ Raw (S :: R :: F) 3 wx (.slice ha x.hs.length hc) x.hs.length (x.hs.flatMap encH) ∧ wx.heap[S]? = some (.cells #[.int .i64 x.r, .slice wa x.wt.length wc, .slice ha x.hs.length hc] 27 (0, 0)) ∧ wx.heap[R]? = some (.cells #[.int .i64 0, .slice none 0 0, .slice none 0 0] 27 (0, 0)) ∧ wx.heap[T]? = some (.cells #[.int .i64 4, .int .i64 64, .int .i64 1, .int .i64 0, .int .i64 0, .int .i64 0, .int .i64 0, .int .i64 0, .int .i64 0, .int .i64 0, .int .i64 0, .int .i64 0, .int .i64 0, .slice none 0 0, .slice none 0 0] 58 (0, 0)) ∧ Below w.heap.size w wx ∧ W.heap.size ≤ wx.heap.size)
    case first =>
      go_upto_region 2 with (fail)
      have hBl : ∀ q ∈ [S], ∃ cc e f, w2.heap[q]? = some (.cells cc e f) := by
        intro q hq
        simp only [List.mem_cons, List.not_mem_nil, or_false] at hq
        rcases hq with rfl <;> first | exact ⟨_, _, _, HS2.out⟩
      refine Txt.Ty.wp_tree [S] [1] [9] [1] [0, 1] (.alt [2] (.alt [3, 4, 5, 6, 7] (.alt [8] (.alt [9, 10, 11] (.done) (.no)) (.no)) (.alt [8] (.alt [3, 4, 5, 6, 7] (.alt [9, 10, 11] (.done) (.no)) (.no)) (.no))) (.alt [8] (.alt [2] (.alt [3, 4, 5, 6, 7] (.alt [9, 10, 11] (.done) (.no)) (.no)) (.no)) (.no))) (by kernel_rfl) (by kernel_rfl) (by kernel_rfl) (by kernel_rfl) hBl ?_
      obtain ⟨w3, hwd⟩ : ∃ y, y = w2.drew := ⟨_, rfl⟩
      have HSB3 : Hid (Txt.SameB [S] w3 w3) := Lib.hid (by rw [hwd]; exact same_start hBl)
      clear hBl
      rw [← hwd]
      have hdr : Below w2.heap.size w2 w3 := by rw [hwd]; exact (Below.refl _ _).drew
      have HS3 := Lib.hid ((hdr.block S (Array.getElem?_eq_some_iff.1 HS2.out).1).trans HS2.out)
      have HR3 := Lib.hid ((hdr.block R (Array.getElem?_eq_some_iff.1 HR2.out).1).trans HR2.out)
      have HI3 := Lib.hid (Raw.below HI2.out hdr)
      have HJ3 := Lib.hid (Raw.below HJ2.out hdr)
      have HT3 := Lib.hid ((hdr.block T (Array.getElem?_eq_some_iff.1 HT2.out).1).trans HT2.out)
      have bel3 := bel2.trans (hdr.mono bel2.size)
      have hz3 := Nat.le_trans hz2 hdr.size
      clear HS2 HR2 HI2 HJ2 HT2
      clear hdr hwd
      have cS_0 := box_at HS3.out (j := 0) rfl
      have cS_1 := box_at HS3.out (j := 1) rfl
      have cS_2 := box_at HS3.out (j := 2) rfl
      (try simp only [Txt.pick, List.getElem?_cons_succ, List.getElem?_cons_zero])
      go_wp2
      refine Txt.RunPost.mk ?_
      clear cS_0 cS_1 cS_2
      refine Txt.Ty.wpTr_alt ?_ (Txt.Ty.wpTr_alt ?_ Txt.Ty.wpTr_no)
      · (try simp only [Txt.pick, List.getElem?_cons_succ, List.getElem?_cons_zero])
        go_wp2_with fail
        refine (rcomps_any _).mono ?_
        rintro e w4 ⟨v4, rfl, hc4, hb4⟩
        have HS4 := Lib.hid ((hb4.block S (Array.getElem?_eq_some_iff.1 HS3.out).1).trans HS3.out)
        have HR4 := Lib.hid ((hb4.block R (Array.getElem?_eq_some_iff.1 HR3.out).1).trans HR3.out)
        have HI4 := Lib.hid (Raw.below HI3.out hb4)
        have HJ4 := Lib.hid (Raw.below HJ3.out hb4)
        have HT4 := Lib.hid ((hb4.block T (Array.getElem?_eq_some_iff.1 HT3.out).1).trans HT3.out)
        have HSB4 := Lib.hid (same_below' HSB3.out hb4)
        have bel4 := bel3.trans (hb4.mono bel3.size)
        have hz4 := Nat.le_trans hz3 hb4.size
        clear HS3 HR3 HI3 HJ3 HT3
        have HU4 : Hid (Ints [] w4 v4 comps) := Lib.hid (Ints.of_own hc4)
        obtain ⟨ua, uc, rfl⟩ := own_slice hc4
        clear hc4 hb4
        go_wp2
        refine Txt.SegPost.mk (Txt.Ty.Shown.same HSB4.out) ?_
        (try simp only [Txt.pick, List.getElem?_cons_succ, List.getElem?_cons_zero])
        go_wp2
        refine Txt.RunPost.mk ?_
        refine Txt.Ty.wpTr_alt ?_ (Txt.Ty.wpTr_alt ?_ Txt.Ty.wpTr_no)
        · (try simp only [Txt.pick, List.getElem?_cons_succ, List.getElem?_cons_zero])
          go_wp2_with fail
          refine (rping_any x.r _ _ x.wt w4 (by omega) (Raw.to_nil HI4.out) HU4.out HOK.out.b).mono ?_
          rintro e w5 ⟨hb5, hres⟩
          have HS5 := Lib.hid ((hb5.block S (Array.getElem?_eq_some_iff.1 HS4.out).1).trans HS4.out)
          have HR5 := Lib.hid ((hb5.block R (Array.getElem?_eq_some_iff.1 HR4.out).1).trans HR4.out)
          have HI5 := Lib.hid (Raw.below HI4.out hb5)
          have HJ5 := Lib.hid (Raw.below HJ4.out hb5)
          have HT5 := Lib.hid ((hb5.block T (Array.getElem?_eq_some_iff.1 HT4.out).1).trans HT4.out)
          have HU5 := Lib.hid (Raw.below HU4.out hb5)
          have HSB5 := Lib.hid (same_below' HSB4.out hb5)
          have bel5 := bel4.trans (hb5.mono bel4.size)
          have hz5 := Nat.le_trans hz4 hb5.size
          clear HS4 HR4 HI4 HJ4 HT4 HU4
          clear HU5
          rw [if_neg (by have := HLT.out; omega)] at hres
          subst hres
          clear hb5
          go_wp2
          refine Txt.SegPost.mk (Txt.Ty.Shown.same HSB5.out) ?_
          (try simp only [Txt.pick, List.getElem?_cons_succ, List.getElem?_cons_zero])
          go_wp2
          refine Txt.RunPost.mk ?_
          refine Txt.Ty.wpTr_alt ?_ Txt.Ty.wpTr_no
          (try simp only [Txt.pick, List.getElem?_cons_succ, List.getElem?_cons_zero])
          go_wp2
          obtain ⟨B, hB⟩ : ∃ O, O = w5.heap.size := ⟨_, rfl⟩
          obtain ⟨w6, hw6⟩ : ∃ W, W = w5.alloc (.cells #[.int .i64 0, .slice none 0 0] 24) := ⟨_, rfl⟩
          have hb6 : Below w5.heap.size w5 w6 := by rw [hw6]; exact (Below.refl _ _).alloc (Nat.le_refl _) _
          have hxB : w6.heap[B]? = some (.cells #[.int .i64 0, .slice none 0 0] 24 (0, 0)) := by rw [hw6, hB]; exact heap_alloc_new w5 _
          rw [← hw6, ← hB]
          have hlB : w5.heap.size ≤ B := by omega
          have lt_S_B : S < B := Nat.lt_of_lt_of_le (Array.getElem?_eq_some_iff.1 HS5.out).1 hlB
          have lt_R_B : R < B := Nat.lt_of_lt_of_le (Array.getElem?_eq_some_iff.1 HR5.out).1 hlB
          have lt_T_B : T < B := Nat.lt_of_lt_of_le (Array.getElem?_eq_some_iff.1 HT5.out).1 hlB
          replace HI5 := Lib.hid (raw_new HI5.out hB)
          replace HJ5 := Lib.hid (raw_new HJ5.out hB)
          clear hw6 hB
          have HS6 := Lib.hid ((hb6.block S (Array.getElem?_eq_some_iff.1 HS5.out).1).trans HS5.out)
          have HR6 := Lib.hid ((hb6.block R (Array.getElem?_eq_some_iff.1 HR5.out).1).trans HR5.out)
          have HI6 := Lib.hid (Raw.below HI5.out hb6)
          have HJ6 := Lib.hid (Raw.below HJ5.out hb6)
          have HT6 := Lib.hid ((hb6.block T (Array.getElem?_eq_some_iff.1 HT5.out).1).trans HT5.out)
          have HSB6 := Lib.hid (same_below' HSB5.out hb6)
          have bel6 := bel5.trans (hb6.mono bel5.size)
          have hz6 := Nat.le_trans hz5 hb6.size
          clear HS5 HR5 HI5 HJ5 HT5
          have HB6 := Lib.hid (hxB)
          clear hb6 hxB
          have hRB : R < B := by omega
          refine Txt.SegPost.mk (Txt.Ty.Shown.same HSB6.out) ?_
          (try simp only [Txt.pick, List.getElem?_cons_succ, List.getElem?_cons_zero])
          go_wp2
          refine Txt.RunPost.mk ?_
          refine Txt.Ty.wpTr_alt ?_ Txt.Ty.wpTr_no
          (try simp only [Txt.pick, List.getElem?_cons_succ, List.getElem?_cons_zero])
          have cB_0 := box_at HB6.out (j := 0) rfl
          have fB_0 := box_free HB6.out 0
          have cB_1 := box_at HB6.out (j := 1) rfl
          have fB_1 := box_free HB6.out 1
          go_wp2
          clear cB_0 fB_0 cB_1 fB_1
          have hwB : w.heap.size ≤ B := by omega
          obtain ⟨w7, hw7⟩ : ∃ Y, Y = ((w6.setCell ⟨B, 0, none⟩ (.int .i64 0)).setCell ⟨B, 1, none⟩ (.slice none 0 0)) := ⟨_, rfl⟩
          have hk7 : Keep [B] w6 w7 := by rw [hw7]; exact keep_set2 w6 B _ _
          have hx7 := heap_put2 HB6.out (.int .i64 0) (.slice none 0 0)
          rw [← hw7] at hx7
          have HS7 := Lib.hid ((hk7.block S (Array.getElem?_eq_some_iff.1 HS6.out).1 (by simp only [List.mem_singleton]; omega)).trans HS6.out)
          have HR7 := Lib.hid ((hk7.block R (Array.getElem?_eq_some_iff.1 HR6.out).1 (by simp only [List.mem_singleton]; omega)).trans HR6.out)
          have HI7 := Lib.hid (raw_set HI6.out hk7 (fun f hf => by rw [List.mem_singleton.1 hf]; simp))
          have HJ7 := Lib.hid (raw_set HJ6.out hk7 (fun f hf => by rw [List.mem_singleton.1 hf]; simp))
          have HT7 := Lib.hid ((hk7.block T (Array.getElem?_eq_some_iff.1 HT6.out).1 (by simp only [List.mem_singleton]; omega)).trans HT6.out)
          have HB7 := Lib.hid hx7
          have bel7 := bel6.trans (hk7.below bel6.size (fun f hf => by rw [List.mem_singleton.1 hf]; exact hwB))
          have hz7 := Nat.le_trans hz6 hk7.size
          clear hx7
          clear HS6 HR6 HI6 HJ6 HT6 HB6
          rw [← hw7]
          clear hw7
          clear HSB6
          refine Txt.SegPost.mk (Txt.Ty.Shown.last rfl) ?_
          (try simp only [Txt.pick, List.getElem?_cons_succ, List.getElem?_cons_zero])
          go_wp2
          refine Txt.RunPost.mk ?_
          refine Txt.Ty.wpTr_done (by rfl) ⟨.head _, trivial⟩ ?_
          go_wp2
          go_meet
          case rel => exact ⟨B, none, 0, 0, rfl, rfl, rfl, raw_sub HI7.out (fun f hf => List.mem_cons_of_mem _ hf), raw_sub HJ7.out (fun f hf => List.mem_cons_of_mem _ hf), HS7.out, HR7.out, HT7.out, bel7, hz7⟩
        · (try simp only [Txt.pick, List.getElem?_cons_succ, List.getElem?_cons_zero])
          go_wp2
          obtain ⟨B, hB⟩ : ∃ O, O = w4.heap.size := ⟨_, rfl⟩
          obtain ⟨w5, hw5⟩ : ∃ W, W = w4.alloc (.cells #[.int .i64 0, .slice none 0 0] 24) := ⟨_, rfl⟩
          have hb5 : Below w4.heap.size w4 w5 := by rw [hw5]; exact (Below.refl _ _).alloc (Nat.le_refl _) _
          have hxB : w5.heap[B]? = some (.cells #[.int .i64 0, .slice none 0 0] 24 (0, 0)) := by rw [hw5, hB]; exact heap_alloc_new w4 _
          rw [← hw5, ← hB]
          have hlB : w4.heap.size ≤ B := by omega
          have lt_S_B : S < B := Nat.lt_of_lt_of_le (Array.getElem?_eq_some_iff.1 HS4.out).1 hlB
          have lt_R_B : R < B := Nat.lt_of_lt_of_le (Array.getElem?_eq_some_iff.1 HR4.out).1 hlB
          have lt_T_B : T < B := Nat.lt_of_lt_of_le (Array.getElem?_eq_some_iff.1 HT4.out).1 hlB
          replace HI4 := Lib.hid (raw_new HI4.out hB)
          replace HJ4 := Lib.hid (raw_new HJ4.out hB)
          clear hw5 hB
          have HS5 := Lib.hid ((hb5.block S (Array.getElem?_eq_some_iff.1 HS4.out).1).trans HS4.out)
          have HR5 := Lib.hid ((hb5.block R (Array.getElem?_eq_some_iff.1 HR4.out).1).trans HR4.out)
          have HI5 := Lib.hid (Raw.below HI4.out hb5)
          have HJ5 := Lib.hid (Raw.below HJ4.out hb5)
          have HT5 := Lib.hid ((hb5.block T (Array.getElem?_eq_some_iff.1 HT4.out).1).trans HT4.out)
          have HU5 := Lib.hid (Raw.below HU4.out hb5)
          have HSB5 := Lib.hid (same_below' HSB4.out hb5)
          have bel5 := bel4.trans (hb5.mono bel4.size)
          have hz5 := Nat.le_trans hz4 hb5.size
          clear HS4 HR4 HI4 HJ4 HT4 HU4
          have HB5 := Lib.hid (hxB)
          clear hb5 hxB
          have hRB : R < B := by omega
          refine Txt.SegPost.mk (Txt.Ty.Shown.same HSB5.out) ?_
          (try simp only [Txt.pick, List.getElem?_cons_succ, List.getElem?_cons_zero])
          go_wp2
          refine Txt.RunPost.mk ?_
          refine Txt.Ty.wpTr_alt ?_ Txt.Ty.wpTr_no
          (try simp only [Txt.pick, List.getElem?_cons_succ, List.getElem?_cons_zero])
          have hBn5 := (Array.getElem?_eq_some_iff.1 HB5.out).1
          go_wp2_with fail
          refine (rping_any x.r _ _ x.wt w5 (by omega) (Raw.to_nil HI5.out) HU5.out HOK.out.b).mono ?_
          rintro e w6 ⟨hb6, hres⟩
          have HS6 := Lib.hid ((hb6.block S (Array.getElem?_eq_some_iff.1 HS5.out).1).trans HS5.out)
          have HR6 := Lib.hid ((hb6.block R (Array.getElem?_eq_some_iff.1 HR5.out).1).trans HR5.out)
          have HI6 := Lib.hid (Raw.below HI5.out hb6)
          have HJ6 := Lib.hid (Raw.below HJ5.out hb6)
          have HT6 := Lib.hid ((hb6.block T (Array.getElem?_eq_some_iff.1 HT5.out).1).trans HT5.out)
          have HU6 := Lib.hid (Raw.below HU5.out hb6)
          have HB6 := Lib.hid ((hb6.block B (Array.getElem?_eq_some_iff.1 HB5.out).1).trans HB5.out)
          have HSB6 := Lib.hid (same_below' HSB5.out hb6)
          have bel6 := bel5.trans (hb6.mono bel5.size)
          have hz6 := Nat.le_trans hz5 hb6.size
          clear HS5 HR5 HI5 HJ5 HT5 HU5 HB5
          clear HU6
          rw [if_neg (by have := HLT.out; omega)] at hres
          subst hres
          clear hb6
          go_wp2
          refine Txt.SegPost.mk (Txt.Ty.Shown.same HSB6.out) ?_
          (try simp only [Txt.pick, List.getElem?_cons_succ, List.getElem?_cons_zero])
          go_wp2
          refine Txt.RunPost.mk ?_
          refine Txt.Ty.wpTr_alt ?_ Txt.Ty.wpTr_no
          (try simp only [Txt.pick, List.getElem?_cons_succ, List.getElem?_cons_zero])
          have cB_0 := box_at HB6.out (j := 0) rfl
          have fB_0 := box_free HB6.out 0
          have cB_1 := box_at HB6.out (j := 1) rfl
          have fB_1 := box_free HB6.out 1
          go_wp2
          clear cB_0 fB_0 cB_1 fB_1
          have hwB : w.heap.size ≤ B := by omega
          obtain ⟨w7, hw7⟩ : ∃ Y, Y = ((w6.setCell ⟨B, 0, none⟩ (.int .i64 0)).setCell ⟨B, 1, none⟩ (.slice none 0 0)) := ⟨_, rfl⟩
          have hk7 : Keep [B] w6 w7 := by rw [hw7]; exact keep_set2 w6 B _ _
          have hx7 := heap_put2 HB6.out (.int .i64 0) (.slice none 0 0)
          rw [← hw7] at hx7
          have HS7 := Lib.hid ((hk7.block S (Array.getElem?_eq_some_iff.1 HS6.out).1 (by simp only [List.mem_singleton]; omega)).trans HS6.out)
          have HR7 := Lib.hid ((hk7.block R (Array.getElem?_eq_some_iff.1 HR6.out).1 (by simp only [List.mem_singleton]; omega)).trans HR6.out)
          have HI7 := Lib.hid (raw_set HI6.out hk7 (fun f hf => by rw [List.mem_singleton.1 hf]; simp))
          have HJ7 := Lib.hid (raw_set HJ6.out hk7 (fun f hf => by rw [List.mem_singleton.1 hf]; simp))
          have HT7 := Lib.hid ((hk7.block T (Array.getElem?_eq_some_iff.1 HT6.out).1 (by simp only [List.mem_singleton]; omega)).trans HT6.out)
          have HB7 := Lib.hid hx7
          have bel7 := bel6.trans (hk7.below bel6.size (fun f hf => by rw [List.mem_singleton.1 hf]; exact hwB))
          have hz7 := Nat.le_trans hz6 hk7.size
          clear hx7
          clear HS6 HR6 HI6 HJ6 HT6 HB6
          rw [← hw7]
          clear hw7
          clear HSB6
          refine Txt.SegPost.mk (Txt.Ty.Shown.last rfl) ?_
          (try simp only [Txt.pick, List.getElem?_cons_succ, List.getElem?_cons_zero])
          go_wp2
          refine Txt.RunPost.mk ?_
          refine Txt.Ty.wpTr_done (by rfl) ⟨.head _, trivial⟩ ?_
          go_wp2
          go_meet
          case rel => exact ⟨B, none, 0, 0, rfl, rfl, rfl, raw_sub HI7.out (fun f hf => List.mem_cons_of_mem _ hf), raw_sub HJ7.out (fun f hf => List.mem_cons_of_mem _ hf), HS7.out, HR7.out, HT7.out, bel7, hz7⟩
      · (try simp only [Txt.pick, List.getElem?_cons_succ, List.getElem?_cons_zero])
        go_wp2
        obtain ⟨B, hB⟩ : ∃ O, O = w3.heap.size := ⟨_, rfl⟩
        obtain ⟨w4, hw4⟩ : ∃ W, W = w3.alloc (.cells #[.int .i64 0, .slice none 0 0] 24) := ⟨_, rfl⟩
        have hb4 : Below w3.heap.size w3 w4 := by rw [hw4]; exact (Below.refl _ _).alloc (Nat.le_refl _) _
        have hxB : w4.heap[B]? = some (.cells #[.int .i64 0, .slice none 0 0] 24 (0, 0)) := by rw [hw4, hB]; exact heap_alloc_new w3 _
        rw [← hw4, ← hB]
        have hlB : w3.heap.size ≤ B := by omega
        have lt_S_B : S < B := Nat.lt_of_lt_of_le (Array.getElem?_eq_some_iff.1 HS3.out).1 hlB
        have lt_R_B : R < B := Nat.lt_of_lt_of_le (Array.getElem?_eq_some_iff.1 HR3.out).1 hlB
        have lt_T_B : T < B := Nat.lt_of_lt_of_le (Array.getElem?_eq_some_iff.1 HT3.out).1 hlB
        replace HI3 := Lib.hid (raw_new HI3.out hB)
        replace HJ3 := Lib.hid (raw_new HJ3.out hB)
        clear hw4 hB
        have HS4 := Lib.hid ((hb4.block S (Array.getElem?_eq_some_iff.1 HS3.out).1).trans HS3.out)
        have HR4 := Lib.hid ((hb4.block R (Array.getElem?_eq_some_iff.1 HR3.out).1).trans HR3.out)
        have HI4 := Lib.hid (Raw.below HI3.out hb4)
        have HJ4 := Lib.hid (Raw.below HJ3.out hb4)
        have HT4 := Lib.hid ((hb4.block T (Array.getElem?_eq_some_iff.1 HT3.out).1).trans HT3.out)
        have HSB4 := Lib.hid (same_below' HSB3.out hb4)
        have bel4 := bel3.trans (hb4.mono bel3.size)
        have hz4 := Nat.le_trans hz3 hb4.size
        clear HS3 HR3 HI3 HJ3 HT3
        have HB4 := Lib.hid (hxB)
        clear hb4 hxB
        have hRB : R < B := by omega
        refine Txt.SegPost.mk (Txt.Ty.Shown.same HSB4.out) ?_
        (try simp only [Txt.pick, List.getElem?_cons_succ, List.getElem?_cons_zero])
        go_wp2
        refine Txt.RunPost.mk ?_
        refine Txt.Ty.wpTr_alt ?_ Txt.Ty.wpTr_no
        (try simp only [Txt.pick, List.getElem?_cons_succ, List.getElem?_cons_zero])
        go_wp2_with fail
        refine (rcomps_any _).mono ?_
        rintro e w5 ⟨v5, rfl, hc5, hb5⟩
        have HS5 := Lib.hid ((hb5.block S (Array.getElem?_eq_some_iff.1 HS4.out).1).trans HS4.out)
        have HR5 := Lib.hid ((hb5.block R (Array.getElem?_eq_some_iff.1 HR4.out).1).trans HR4.out)
        have HI5 := Lib.hid (Raw.below HI4.out hb5)
        have HJ5 := Lib.hid (Raw.below HJ4.out hb5)
        have HT5 := Lib.hid ((hb5.block T (Array.getElem?_eq_some_iff.1 HT4.out).1).trans HT4.out)
        have HB5 := Lib.hid ((hb5.block B (Array.getElem?_eq_some_iff.1 HB4.out).1).trans HB4.out)
        have HSB5 := Lib.hid (same_below' HSB4.out hb5)
        have bel5 := bel4.trans (hb5.mono bel4.size)
        have hz5 := Nat.le_trans hz4 hb5.size
        clear HS4 HR4 HI4 HJ4 HT4 HB4
        have HU5 : Hid (Ints [] w5 v5 comps) := Lib.hid (Ints.of_own hc5)
        obtain ⟨ua, uc, rfl⟩ := own_slice hc5
        clear hc5 hb5
        go_wp2
        refine Txt.SegPost.mk (Txt.Ty.Shown.same HSB5.out) ?_
        (try simp only [Txt.pick, List.getElem?_cons_succ, List.getElem?_cons_zero])
        go_wp2
        refine Txt.RunPost.mk ?_
        refine Txt.Ty.wpTr_alt ?_ Txt.Ty.wpTr_no
        (try simp only [Txt.pick, List.getElem?_cons_succ, List.getElem?_cons_zero])
        have hBn5 := (Array.getElem?_eq_some_iff.1 HB5.out).1
        go_wp2_with fail
        refine (rping_any x.r _ _ x.wt w5 (by omega) (Raw.to_nil HI5.out) HU5.out HOK.out.b).mono ?_
        rintro e w6 ⟨hb6, hres⟩
        have HS6 := Lib.hid ((hb6.block S (Array.getElem?_eq_some_iff.1 HS5.out).1).trans HS5.out)
        have HR6 := Lib.hid ((hb6.block R (Array.getElem?_eq_some_iff.1 HR5.out).1).trans HR5.out)
        have HI6 := Lib.hid (Raw.below HI5.out hb6)
        have HJ6 := Lib.hid (Raw.below HJ5.out hb6)
        have HT6 := Lib.hid ((hb6.block T (Array.getElem?_eq_some_iff.1 HT5.out).1).trans HT5.out)
        have HB6 := Lib.hid ((hb6.block B (Array.getElem?_eq_some_iff.1 HB5.out).1).trans HB5.out)
        have HU6 := Lib.hid (Raw.below HU5.out hb6)
        have HSB6 := Lib.hid (same_below' HSB5.out hb6)
        have bel6 := bel5.trans (hb6.mono bel5.size)
        have hz6 := Nat.le_trans hz5 hb6.size
        clear HS5 HR5 HI5 HJ5 HT5 HB5 HU5
        clear HU6
        rw [if_neg (by have := HLT.out; omega)] at hres
        subst hres
        clear hb6
        go_wp2
        refine Txt.SegPost.mk (Txt.Ty.Shown.same HSB6.out) ?_
        (try simp only [Txt.pick, List.getElem?_cons_succ, List.getElem?_cons_zero])
        go_wp2
        refine Txt.RunPost.mk ?_
        refine Txt.Ty.wpTr_alt ?_ Txt.Ty.wpTr_no
        (try simp only [Txt.pick, List.getElem?_cons_succ, List.getElem?_cons_zero])
        have cB_0 := box_at HB6.out (j := 0) rfl
        have fB_0 := box_free HB6.out 0
        have cB_1 := box_at HB6.out (j := 1) rfl
        have fB_1 := box_free HB6.out 1
        go_wp2
        clear cB_0 fB_0 cB_1 fB_1
        have hwB : w.heap.size ≤ B := by omega
        obtain ⟨w7, hw7⟩ : ∃ Y, Y = ((w6.setCell ⟨B, 0, none⟩ (.int .i64 0)).setCell ⟨B, 1, none⟩ (.slice none 0 0)) := ⟨_, rfl⟩
        have hk7 : Keep [B] w6 w7 := by rw [hw7]; exact keep_set2 w6 B _ _
        have hx7 := heap_put2 HB6.out (.int .i64 0) (.slice none 0 0)
        rw [← hw7] at hx7
        have HS7 := Lib.hid ((hk7.block S (Array.getElem?_eq_some_iff.1 HS6.out).1 (by simp only [List.mem_singleton]; omega)).trans HS6.out)
        have HR7 := Lib.hid ((hk7.block R (Array.getElem?_eq_some_iff.1 HR6.out).1 (by simp only [List.mem_singleton]; omega)).trans HR6.out)
        have HI7 := Lib.hid (raw_set HI6.out hk7 (fun f hf => by rw [List.mem_singleton.1 hf]; simp))
        have HJ7 := Lib.hid (raw_set HJ6.out hk7 (fun f hf => by rw [List.mem_singleton.1 hf]; simp))
        have HT7 := Lib.hid ((hk7.block T (Array.getElem?_eq_some_iff.1 HT6.out).1 (by simp only [List.mem_singleton]; omega)).trans HT6.out)
        have HB7 := Lib.hid hx7
        have bel7 := bel6.trans (hk7.below bel6.size (fun f hf => by rw [List.mem_singleton.1 hf]; exact hwB))
        have hz7 := Nat.le_trans hz6 hk7.size
        clear hx7
        clear HS6 HR6 HI6 HJ6 HT6 HB6
        rw [← hw7]
        clear hw7
        clear HSB6
        refine Txt.SegPost.mk (Txt.Ty.Shown.last rfl) ?_
        (try simp only [Txt.pick, List.getElem?_cons_succ, List.getElem?_cons_zero])
        go_wp2
        refine Txt.RunPost.mk ?_
        refine Txt.Ty.wpTr_done (by rfl) ⟨.head _, trivial⟩ ?_
        go_wp2
        go_meet
        case rel => exact ⟨B, none, 0, 0, rfl, rfl, rfl, raw_sub HI7.out (fun f hf => List.mem_cons_of_mem _ hf), raw_sub HJ7.out (fun f hf => List.mem_cons_of_mem _ hf), HS7.out, HR7.out, HT7.out, bel7, hz7⟩
    case rest =>
      obtain ⟨B, qa, qn, qc, rfl, rfl, rfl, hI, hJ, hS, hR, hT, bel3, hz3⟩ := hcut
      rename World => w3
      have HI3 := Lib.hid hI; have HJ3 := Lib.hid hJ; have HS3 := Lib.hid hS; have HR3 := Lib.hid hR; have HT3 := Lib.hid hT
      clear hI hJ hS hR hT
      go_upto_region 4 with (fail)
      have hBl : ∀ q ∈ [S, T], ∃ cc e f, w3.heap[q]? = some (.cells cc e f) := by
        intro q hq
        simp only [List.mem_cons, List.not_mem_nil, or_false] at hq
        rcases hq with rfl | rfl <;> first | exact ⟨_, _, _, HS3.out⟩ | exact ⟨_, _, _, HT3.out⟩
      refine Txt.Ty.wp_tree [S, T] [0, 1] [] [0, 1] [0, 1] (.alt [2] (.alt [3, 4] (.done) (.no)) (.alt [3] (.alt [2, 4] (.done) (.no)) (.no))) (by kernel_rfl) (by kernel_rfl) (by kernel_rfl) (by kernel_rfl) hBl ?_
      obtain ⟨w4, hwd⟩ : ∃ y, y = w3.drew := ⟨_, rfl⟩
      have HSB4 : Hid (Txt.SameB [S, T] w4 w4) := Lib.hid (by rw [hwd]; exact same_start hBl)
      clear hBl
      rw [← hwd]
      have hdr : Below w3.heap.size w3 w4 := by rw [hwd]; exact (Below.refl _ _).drew
      have HS4 := Lib.hid ((hdr.block S (Array.getElem?_eq_some_iff.1 HS3.out).1).trans HS3.out)
      have HR4 := Lib.hid ((hdr.block R (Array.getElem?_eq_some_iff.1 HR3.out).1).trans HR3.out)
      have HT4 := Lib.hid ((hdr.block T (Array.getElem?_eq_some_iff.1 HT3.out).1).trans HT3.out)
      have HI4 := Lib.hid (Raw.below HI3.out hdr)
      have HJ4 := Lib.hid (Raw.below HJ3.out hdr)
      have bel4 := bel3.trans (hdr.mono bel3.size)
      have hz4 := Nat.le_trans hz3 hdr.size
      clear HS3 HR3 HT3 HI3 HJ3
      clear hdr hwd
      have cS_0 := box_at HS4.out (j := 0) rfl
      have cS_1 := box_at HS4.out (j := 1) rfl
      have cS_2 := box_at HS4.out (j := 2) rfl
      have cT_0 := box_at HT4.out (j := 0) rfl
      have cT_1 := box_at HT4.out (j := 1) rfl
      have cT_2 := box_at HT4.out (j := 2) rfl
      have cT_3 := box_at HT4.out (j := 3) rfl
      have cT_4 := box_at HT4.out (j := 4) rfl
      have cT_5 := box_at HT4.out (j := 5) rfl
      have cT_6 := box_at HT4.out (j := 6) rfl
      have cT_7 := box_at HT4.out (j := 7) rfl
      have cT_8 := box_at HT4.out (j := 8) rfl
      have cT_9 := box_at HT4.out (j := 9) rfl
      have cT_10 := box_at HT4.out (j := 10) rfl
      have cT_11 := box_at HT4.out (j := 11) rfl
      have cT_12 := box_at HT4.out (j := 12) rfl
      have cT_13 := box_at HT4.out (j := 13) rfl
      have cT_14 := box_at HT4.out (j := 14) rfl
      (try simp only [Txt.pick, List.getElem?_cons_succ, List.getElem?_cons_zero])
      go_wp2
      refine Txt.RunPost.mk ?_
      clear cS_0 cS_1 cS_2 cT_0 cT_1 cT_2 cT_3 cT_4 cT_5 cT_6 cT_7 cT_8 cT_9 cT_10 cT_11 cT_12 cT_13 cT_14
      refine Txt.Ty.wpTr_alt ?_ (Txt.Ty.wpTr_alt ?_ Txt.Ty.wpTr_no)
      · (try simp only [Txt.pick, List.getElem?_cons_succ, List.getElem?_cons_zero])
        go_wp2
        obtain ⟨E, hE⟩ : ∃ O, O = w4.heap.size := ⟨_, rfl⟩
        obtain ⟨w5, hw5⟩ : ∃ W, W = w4.alloc (.cells #[.int .i64 4, .int .i64 64, .int .i64 1, .int .i64 0, .int .i64 0, .int .i64 0, .int .i64 0, .int .i64 0, .int .i64 0, .int .i64 0, .int .i64 0, .int .i64 0, .int .i64 0, .slice none 0 0, .slice none 0 0] 58) := ⟨_, rfl⟩
        have hb5 : Below w4.heap.size w4 w5 := by rw [hw5]; exact (Below.refl _ _).alloc (Nat.le_refl _) _
        have hxE : w5.heap[E]? = some (.cells #[.int .i64 4, .int .i64 64, .int .i64 1, .int .i64 0, .int .i64 0, .int .i64 0, .int .i64 0, .int .i64 0, .int .i64 0, .int .i64 0, .int .i64 0, .int .i64 0, .int .i64 0, .slice none 0 0, .slice none 0 0] 58 (0, 0)) := by rw [hw5, hE]; exact heap_alloc_new w4 _
        rw [← hw5, ← hE]
        have hlE : w4.heap.size ≤ E := by omega
        have lt_S_E : S < E := Nat.lt_of_lt_of_le (Array.getElem?_eq_some_iff.1 HS4.out).1 hlE
        have lt_R_E : R < E := Nat.lt_of_lt_of_le (Array.getElem?_eq_some_iff.1 HR4.out).1 hlE
        have lt_T_E : T < E := Nat.lt_of_lt_of_le (Array.getElem?_eq_some_iff.1 HT4.out).1 hlE
        clear hw5 hE
        have HS5 := Lib.hid ((hb5.block S (Array.getElem?_eq_some_iff.1 HS4.out).1).trans HS4.out)
        have HR5 := Lib.hid ((hb5.block R (Array.getElem?_eq_some_iff.1 HR4.out).1).trans HR4.out)
        have HT5 := Lib.hid ((hb5.block T (Array.getElem?_eq_some_iff.1 HT4.out).1).trans HT4.out)
        have HI5 := Lib.hid (Raw.below HI4.out hb5)
        have HJ5 := Lib.hid (Raw.below HJ4.out hb5)
        have HSB5 := Lib.hid (same_below' HSB4.out hb5)
        have bel5 := bel4.trans (hb5.mono bel4.size)
        have hz5 := Nat.le_trans hz4 hb5.size
        clear HS4 HR4 HT4 HI4 HJ4
        have HE5 := Lib.hid (hxE)
        clear hb5 hxE
        refine Txt.SegPost.mk (Txt.Ty.Shown.same HSB5.out) ?_
        (try simp only [Txt.pick, List.getElem?_cons_succ, List.getElem?_cons_zero])
        go_wp2
        refine Txt.RunPost.mk ?_
        refine Txt.Ty.wpTr_alt ?_ Txt.Ty.wpTr_no
        (try simp only [Txt.pick, List.getElem?_cons_succ, List.getElem?_cons_zero])
        have cR_0 := box_at HR5.out (j := 0) rfl
        have fR_0 := box_free HR5.out 0
        have cR_1 := box_at HR5.out (j := 1) rfl
        have fR_1 := box_free HR5.out 1
        have cR_2 := box_at HR5.out (j := 2) rfl
        have fR_2 := box_free HR5.out 2
        go_wp2
        clear cR_0 fR_0 cR_1 fR_1 cR_2 fR_2
        obtain ⟨w6, hw6⟩ : ∃ Y, Y = (((w5.setCell ⟨R, 0, none⟩ (.int .i64 x.r)).setCell ⟨R, 1, none⟩ (.slice wa x.wt.length wc)).setCell ⟨R, 2, none⟩ (.slice ha x.hs.length hc)) := ⟨_, rfl⟩
        have hk6 : Keep [R] w5 w6 := by rw [hw6]; exact keep_set3 w5 R _ _ _
        have hx6 := heap_set3 HR5.out (.int .i64 x.r) (.slice wa x.wt.length wc) (.slice ha x.hs.length hc)
        rw [← hw6] at hx6
        have HS6 := Lib.hid ((hk6.block S (Array.getElem?_eq_some_iff.1 HS5.out).1 (by simp only [List.mem_singleton]; omega)).trans HS5.out)
        have HR6 := Lib.hid hx6
        have HT6 := Lib.hid ((hk6.block T (Array.getElem?_eq_some_iff.1 HT5.out).1 (by simp only [List.mem_singleton]; omega)).trans HT5.out)
        have HI6 := Lib.hid (raw_set HI5.out hk6 (fun f hf => by rw [List.mem_singleton.1 hf]; simp))
        have HJ6 := Lib.hid (raw_set HJ5.out hk6 (fun f hf => by rw [List.mem_singleton.1 hf]; simp))
        have HE6 := Lib.hid ((hk6.block E (Array.getElem?_eq_some_iff.1 HE5.out).1 (by simp only [List.mem_singleton]; omega)).trans HE5.out)
        have bel6 := bel5.trans (hk6.below bel5.size (fun f hf => by rw [List.mem_singleton.1 hf]; exact hwR))
        have hz6 := Nat.le_trans hz5 hk6.size
        clear hx6
        clear HS5 HR5 HT5 HI5 HJ5 HE5
        rw [← hw6]
        clear hw6
        have HSB6 := Lib.hid (same_keep HSB5.out hk6 (fun q hq hm => by simp only [List.mem_cons, List.not_mem_nil, or_false] at hq hm; rcases hq with rfl | rfl <;> omega))
        clear HSB5
        refine Txt.SegPost.mk (Txt.Ty.Shown.same HSB6.out) ?_
        (try simp only [Txt.pick, List.getElem?_cons_succ, List.getElem?_cons_zero])
        go_wp2
        refine Txt.RunPost.mk ?_
        refine Txt.Ty.wpTr_done (by rfl) ⟨.head _, .tail _ (.head _), trivial⟩ ?_
        clear HSB6
        go_wp2
        refine bodyPost_ret (results_ct rfl _ _ _ _ _ _ _ rfl HR6.out Tryz.underlying27 rfl (by kernel_rfl)) rfl ?_
        refine ⟨bel6, ?_⟩
        rw [HAL.out]
        exact ⟨_, _, _, rfl, raw_sub HI6.out (fun f hf => by simp [hf]), raw_sub HJ6.out (fun f hf => by simp [hf]), boxEf' E timE HE6.out (fun f hf => by have := hSRF.out f (by simp [hf]); omega)⟩
      · (try simp only [Txt.pick, List.getElem?_cons_succ, List.getElem?_cons_zero])
        have cR_0 := box_at HR4.out (j := 0) rfl
        have fR_0 := box_free HR4.out 0
        have cR_1 := box_at HR4.out (j := 1) rfl
        have fR_1 := box_free HR4.out 1
        have cR_2 := box_at HR4.out (j := 2) rfl
        have fR_2 := box_free HR4.out 2
        go_wp2
        clear cR_0 fR_0 cR_1 fR_1 cR_2 fR_2
        obtain ⟨w5, hw5⟩ : ∃ Y, Y = (((w4.setCell ⟨R, 0, none⟩ (.int .i64 x.r)).setCell ⟨R, 1, none⟩ (.slice wa x.wt.length wc)).setCell ⟨R, 2, none⟩ (.slice ha x.hs.length hc)) := ⟨_, rfl⟩
        have hk5 : Keep [R] w4 w5 := by rw [hw5]; exact keep_set3 w4 R _ _ _
        have hx5 := heap_set3 HR4.out (.int .i64 x.r) (.slice wa x.wt.length wc) (.slice ha x.hs.length hc)
        rw [← hw5] at hx5
        have HS5 := Lib.hid ((hk5.block S (Array.getElem?_eq_some_iff.1 HS4.out).1 (by simp only [List.mem_singleton]; omega)).trans HS4.out)
        have HR5 := Lib.hid hx5
        have HT5 := Lib.hid ((hk5.block T (Array.getElem?_eq_some_iff.1 HT4.out).1 (by simp only [List.mem_singleton]; omega)).trans HT4.out)
        have HI5 := Lib.hid (raw_set HI4.out hk5 (fun f hf => by rw [List.mem_singleton.1 hf]; simp))
        have HJ5 := Lib.hid (raw_set HJ4.out hk5 (fun f hf => by rw [List.mem_singleton.1 hf]; simp))
        have bel5 := bel4.trans (hk5.below bel4.size (fun f hf => by rw [List.mem_singleton.1 hf]; exact hwR))
        have hz5 := Nat.le_trans hz4 hk5.size
        clear hx5
        clear HS4 HR4 HT4 HI4 HJ4
        rw [← hw5]
        clear hw5
        have HSB5 := Lib.hid (same_keep HSB4.out hk5 (fun q hq hm => by simp only [List.mem_cons, List.not_mem_nil, or_false] at hq hm; rcases hq with rfl | rfl <;> omega))
        clear HSB4
        refine Txt.SegPost.mk (Txt.Ty.Shown.same HSB5.out) ?_
        (try simp only [Txt.pick, List.getElem?_cons_succ, List.getElem?_cons_zero])
        go_wp2
        refine Txt.RunPost.mk ?_
        refine Txt.Ty.wpTr_alt ?_ Txt.Ty.wpTr_no
        (try simp only [Txt.pick, List.getElem?_cons_succ, List.getElem?_cons_zero])
        go_wp2
        obtain ⟨E, hE⟩ : ∃ O, O = w5.heap.size := ⟨_, rfl⟩
        obtain ⟨w6, hw6⟩ : ∃ W, W = w5.alloc (.cells #[.int .i64 4, .int .i64 64, .int .i64 1, .int .i64 0, .int .i64 0, .int .i64 0, .int .i64 0, .int .i64 0, .int .i64 0, .int .i64 0, .int .i64 0, .int .i64 0, .int .i64 0, .slice none 0 0, .slice none 0 0] 58) := ⟨_, rfl⟩
        have hb6 : Below w5.heap.size w5 w6 := by rw [hw6]; exact (Below.refl _ _).alloc (Nat.le_refl _) _
        have hxE : w6.heap[E]? = some (.cells #[.int .i64 4, .int .i64 64, .int .i64 1, .int .i64 0, .int .i64 0, .int .i64 0, .int .i64 0, .int .i64 0, .int .i64 0, .int .i64 0, .int .i64 0, .int .i64 0, .int .i64 0, .slice none 0 0, .slice none 0 0] 58 (0, 0)) := by rw [hw6, hE]; exact heap_alloc_new w5 _
        rw [← hw6, ← hE]
        have hlE : w5.heap.size ≤ E := by omega
        have lt_S_E : S < E := Nat.lt_of_lt_of_le (Array.getElem?_eq_some_iff.1 HS5.out).1 hlE
        have lt_R_E : R < E := Nat.lt_of_lt_of_le (Array.getElem?_eq_some_iff.1 HR5.out).1 hlE
        have lt_T_E : T < E := Nat.lt_of_lt_of_le (Array.getElem?_eq_some_iff.1 HT5.out).1 hlE
        clear hw6 hE
        have HS6 := Lib.hid ((hb6.block S (Array.getElem?_eq_some_iff.1 HS5.out).1).trans HS5.out)
        have HR6 := Lib.hid ((hb6.block R (Array.getElem?_eq_some_iff.1 HR5.out).1).trans HR5.out)
        have HT6 := Lib.hid ((hb6.block T (Array.getElem?_eq_some_iff.1 HT5.out).1).trans HT5.out)
        have HI6 := Lib.hid (Raw.below HI5.out hb6)
        have HJ6 := Lib.hid (Raw.below HJ5.out hb6)
        have HSB6 := Lib.hid (same_below' HSB5.out hb6)
        have bel6 := bel5.trans (hb6.mono bel5.size)
        have hz6 := Nat.le_trans hz5 hb6.size
        clear HS5 HR5 HT5 HI5 HJ5
        have HE6 := Lib.hid (hxE)
        clear hb6 hxE
        refine Txt.SegPost.mk (Txt.Ty.Shown.same HSB6.out) ?_
        (try simp only [Txt.pick, List.getElem?_cons_succ, List.getElem?_cons_zero])
        go_wp2
        refine Txt.RunPost.mk ?_
        refine Txt.Ty.wpTr_done (by rfl) ⟨.head _, .tail _ (.head _), trivial⟩ ?_
        clear HSB6
        go_wp2
        refine bodyPost_ret (results_ct rfl _ _ _ _ _ _ _ rfl HR6.out Tryz.underlying27 rfl (by kernel_rfl)) rfl ?_
        refine ⟨bel6, ?_⟩
        rw [HAL.out]
        exact ⟨_, _, _, rfl, raw_sub HI6.out (fun f hf => by simp [hf]), raw_sub HJ6.out (fun f hf => by simp [hf]), boxEf' E timE HE6.out (fun f hf => by have := hSRF.out f (by simp [hf]); omega)⟩
end Go.Proofs.YthmnhpakgjnngaaGreatDoor
