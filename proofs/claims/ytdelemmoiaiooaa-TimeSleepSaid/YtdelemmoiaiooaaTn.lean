/- time: system -/
import Derived.Test.YtdelemmoiaiooaaTm
namespace Go.Ti
open Go Go.RowKit Go.Bs Go.Cl Go.Rw Go.Wi
theorem insT_len (l : List Int) (t : Int) : (insT l t).length = l.length + 1 := by simp [insT]
end Go.Ti
namespace Go.Proofs.Ytdelemmoiaiooaa
open Go.RowKit Go.Bs Go.Cl Go.Rw Go.Ti Go.Wi Go.Sort Go.So
theorem user_is (t : Int) (r : Bool) (w : World) (h : usr t = r) : Calls Try.prog 34 #[.int .i64 t] w fun e w' => e = .returned (.bool r) ∧ w = w' := h ▸ user_any t w
theorem sleeps_is (s base : Nat) (v : Value) (l : List Int) (t : Int) (r : Bool) (w : World) (hl : l.length ≤ 1000) (h : St w base s v l) (hr : decide (t ∈ l) = r) :
    Calls Try.prog 41 #[.pointer (some ⟨s, 0, none⟩), .int .i64 t] w fun e w' => e = .returned (.bool r) ∧ Below w.heap.size w w' := hr ▸ sleeps_any s base v l t w hl h
set_option maxRecDepth 100000 in
set_option maxHeartbeats 4000000 in
theorem system_any (s base : Nat) (v dv : Value) (l : List Int) (m : Ms) (w : World) (hl : l.length ≤ 900) (h : St w base s v l) (hd : ∃ a n c, dv = .slice a n c) :
    Calls Try.prog 40 #[.pointer (some ⟨s, 0, none⟩), .agg (msgC m dv)] w (RetT (sysT l m) base s w) := by
  obtain ⟨da, dn, dc, rfl⟩ := hd
  obtain ⟨va, vc, rfl⟩ := own_slice h.row
  obtain ⟨W, hW⟩ : ∃ W, W = w.alloc (.cells (msgC m (.slice da dn dc)) 28) := ⟨_, rfl⟩
  have hb : Below w.heap.size w W := by rw [hW]; exact (Below.refl w.heap.size w).alloc (Nat.le_refl _) _
  have hx : W.heap[w.heap.size]? = some (.cells (msgC m (.slice da dn dc)) 28 (0, 0)) := by rw [hW]; exact heap_alloc_new w _
  have hbw : base ≤ w.heap.size := Nat.le_trans h.lo (Nat.le_of_lt h.lt)
  have hlo := h.lo
  have HS := Lib.hid (h.below hb)
  have Hb := Lib.hid (hb.mono hbw)
  have Hx := Lib.hid hx
  have hws := hb.size
  have c0 := box_at hx (j := 0) rfl
  have c4 := box_at hx (j := 4) rfl
  have c5 := box_at hx (j := 5) rfl
  have c7 := box_at hx (j := 7) rfl
  have HW := Lib.hid hW
  clear hb hx h hW
  unfold msgC at c0 c4 c5 c7 HW
  unfold msgC
  go_enter Try.func40, Try.ntmps40
  go_upto_region 1 with (fail)
  rw [← HW.out]
  clear HW
  refine Txt.wp_txt (by kernel_rfl) (by kernel_rfl) ?_
  go_wp2
  refine Txt.DrawPost.mk0 (by rfl) ?_
  obtain ⟨w0, hw0⟩ : ∃ w0, w0 = W.drew := ⟨_, rfl⟩
  have hd0 : Below W.heap.size W w0 := by rw [hw0]; exact (Below.refl _ _).drew
  have hxl := (Array.getElem?_eq_some_iff.1 Hx.out).1
  have Hx := Lib.hid ((hd0.block _ hxl).trans Hx.out)
  have HS := Lib.hid (HS.out.below hd0)
  have Hb := Lib.hid (Hb.out.trans (hd0.mono (by omega)))
  have hws0 := hd0.size
  have c0 := box_at Hx.out (j := 0) rfl
  have c4 := box_at Hx.out (j := 4) rfl
  have c5 := box_at Hx.out (j := 5) rfl
  have c7 := box_at Hx.out (j := 7) rfl
  have f0 := HS.out.lt
  rw [← hw0]
  clear hw0 hd0 hxl
  unfold msgC at Hx
  cases hu : usr m.src
  · have Hr : Hid (sysT l m = none) := Lib.hid (by unfold sysT; rw [if_pos (.inl hu)])
    go_wp2_with fail
    refine (user_is m.src false _ hu).mono ?_
    rintro e w1 ⟨rfl, rfl⟩
    clear hu
    go_wp2
    go_ret2
    rw [Hr.out]
    exact ⟨Hb.out, rfl⟩
  go_wp2_with fail
  refine (user_is m.src true _ hu).mono ?_
  rintro e w1 ⟨rfl, rfl⟩
  cases hm : decide (m.src ∈ l)
  rotate_left
  · have Hr : Hid (sysT l m = none) := Lib.hid (by unfold sysT; rw [if_pos (.inr (by simpa using hm))])
    go_wp2_with fail
    refine (sleeps_is s base _ l m.src true _ (by omega) HS.out hm).mono ?_
    rintro e w1 ⟨rfl, hb1⟩
    have Hb1 := Lib.hid (Hb.out.trans (hb1.mono (by omega)))
    clear hu hm hb1
    go_wp2
    go_ret2
    rw [Hr.out]
    exact ⟨Hb1.out, rfl⟩
  have Hs0 : Hid (sysT l m = (if m.a0 = 18 then some (l, [reply m.src m.a3])
    else if m.a0 ≠ 19 then none
    else if m.a1 < 0 ∨ 1000000 < m.a1 then some (l, [reply m.src (-2)])
    else if m.a1 = 0 then some (l, [reply m.src 0])
    else some (insT l m.src, [timer m.a1 m.src]))) := Lib.hid (by unfold sysT; rw [if_neg]; rintro (h1 | h1); { rw [hu] at h1; cases h1 }; { simp [h1] at hm })
  go_wp2_with fail
  refine (sleeps_is s base _ l m.src false _ (by omega) HS.out hm).mono ?_
  rintro e w1 ⟨rfl, hb1⟩
  clear hm
  have Hb1 := Lib.hid (Hb.out.trans (hb1.mono (by omega)))
  have HS1 := Lib.hid (HS.out.below hb1)
  have hxl := (Array.getElem?_eq_some_iff.1 Hx.out).1
  have Hx1 := Lib.hid ((hb1.block _ hxl).trans Hx.out)
  have hws1 := hb1.size
  clear c0 c4 c5 c7 hb1 Hb HS f0
  have c0 := box_at Hx1.out (j := 0) rfl
  have c4 := box_at Hx1.out (j := 4) rfl
  have c5 := box_at Hx1.out (j := 5) rfl
  have c7 := box_at Hx1.out (j := 7) rfl
  clear Hx Hx1
  by_cases h18 : m.a0 = 18
  · have Hr : Hid (sysT l m = some (l, [reply m.src m.a3])) := Lib.hid (by rw [Hs0.out, if_pos h18])
    rw [h18] at c4
    go_wp2_with fail
    refine (reply_any m.src m.a3 _).mono ?_
    rintro e w2 ⟨rfl, hb2⟩
    simp only [encE, reply, timer, send]
    have HSf := Lib.hid (HS1.out.below hb2)
    have Hbf := Lib.hid (Hb1.out.trans (hb2.mono (by omega)))
    have hws2 := hb2.size
    clear hb2 c0 c4 c5 c7
    have hal := (Below.refl w2.heap.size w2).alloc (Nat.le_refl _) (.cells (encE (reply m.src m.a3)).toArray 62)
    have HEf := Lib.hid (box1 w2.heap.size (reply m.src m.a3) (heap_alloc_new w2 (.cells (encE (reply m.src m.a3)).toArray 62)))
    have HSg := Lib.hid (HSf.out.below hal)
    have Hbg := Lib.hid (Hbf.out.trans (hal.mono (by omega)))
    clear hal HSf Hbf
    go_wp2
    go_ret2
    rw [Hr.out]
    exact ⟨Hbg.out, _, _, rfl, HEf.out, HSg.out⟩
  by_cases h19 : m.a0 = 19
  rotate_left
  · have Hr : Hid (sysT l m = none) := Lib.hid (by rw [Hs0.out, if_neg h18, if_pos h19])
    go_wp2
    go_ret2
    rw [Hr.out]
    exact ⟨Hb1.out, rfl⟩
  have Hs1 : Hid (sysT l m = (if m.a1 < 0 ∨ 1000000 < m.a1 then some (l, [reply m.src (-2)])
    else if m.a1 = 0 then some (l, [reply m.src 0])
    else some (insT l m.src, [timer m.a1 m.src]))) := Lib.hid (by rw [Hs0.out, if_neg h18, if_neg (by simp [h19])])
  rw [h19] at c4
  clear h18 h19 Hs0
  by_cases hn : m.a1 < 0
  · have Hr : Hid (sysT l m = some (l, [reply m.src (-2)])) := Lib.hid (by rw [Hs1.out, if_pos (.inl hn)])
    go_wp2_with fail
    refine (reply_any m.src (-2) _).mono ?_
    rintro e w2 ⟨rfl, hb2⟩
    simp only [encE, reply, timer, send]
    have HSf := Lib.hid (HS1.out.below hb2)
    have Hbf := Lib.hid (Hb1.out.trans (hb2.mono (by omega)))
    have hws2 := hb2.size
    clear hb2 c0 c4 c5 c7
    have hal := (Below.refl w2.heap.size w2).alloc (Nat.le_refl _) (.cells (encE (reply m.src (-2))).toArray 62)
    have HEf := Lib.hid (box1 w2.heap.size (reply m.src (-2)) (heap_alloc_new w2 (.cells (encE (reply m.src (-2))).toArray 62)))
    have HSg := Lib.hid (HSf.out.below hal)
    have Hbg := Lib.hid (Hbf.out.trans (hal.mono (by omega)))
    clear hal HSf Hbf
    go_wp2
    go_ret2
    rw [Hr.out]
    exact ⟨Hbg.out, _, _, rfl, HEf.out, HSg.out⟩
  by_cases hx : 1000000 < m.a1
  · have Hr : Hid (sysT l m = some (l, [reply m.src (-2)])) := Lib.hid (by rw [Hs1.out, if_pos (.inr hx)])
    go_wp2_with fail
    refine (reply_any m.src (-2) _).mono ?_
    rintro e w2 ⟨rfl, hb2⟩
    simp only [encE, reply, timer, send]
    have HSf := Lib.hid (HS1.out.below hb2)
    have Hbf := Lib.hid (Hb1.out.trans (hb2.mono (by omega)))
    have hws2 := hb2.size
    clear hb2 c0 c4 c5 c7
    have hal := (Below.refl w2.heap.size w2).alloc (Nat.le_refl _) (.cells (encE (reply m.src (-2))).toArray 62)
    have HEf := Lib.hid (box1 w2.heap.size (reply m.src (-2)) (heap_alloc_new w2 (.cells (encE (reply m.src (-2))).toArray 62)))
    have HSg := Lib.hid (HSf.out.below hal)
    have Hbg := Lib.hid (Hbf.out.trans (hal.mono (by omega)))
    clear hal HSf Hbf
    go_wp2
    go_ret2
    rw [Hr.out]
    exact ⟨Hbg.out, _, _, rfl, HEf.out, HSg.out⟩
  have Hs2 : Hid (sysT l m = (if m.a1 = 0 then some (l, [reply m.src 0])
    else some (insT l m.src, [timer m.a1 m.src]))) := Lib.hid (by rw [Hs1.out, if_neg (by omega)])
  have hx' : m.a1 ≤ 1000000 := by omega
  by_cases h0 : m.a1 = 0
  · have Hr : Hid (sysT l m = some (l, [reply m.src 0])) := Lib.hid (by rw [Hs2.out, if_pos h0])
    rw [h0] at c5
    go_wp2_with fail
    refine (reply_any m.src 0 _).mono ?_
    rintro e w2 ⟨rfl, hb2⟩
    simp only [encE, reply, timer, send]
    have HSf := Lib.hid (HS1.out.below hb2)
    have Hbf := Lib.hid (Hb1.out.trans (hb2.mono (by omega)))
    have hws2 := hb2.size
    clear hb2 c0 c4 c5 c7
    have hal := (Below.refl w2.heap.size w2).alloc (Nat.le_refl _) (.cells (encE (reply m.src 0)).toArray 62)
    have HEf := Lib.hid (box1 w2.heap.size (reply m.src 0) (heap_alloc_new w2 (.cells (encE (reply m.src 0)).toArray 62)))
    have HSg := Lib.hid (HSf.out.below hal)
    have Hbg := Lib.hid (Hbf.out.trans (hal.mono (by omega)))
    clear hal HSf Hbf
    go_wp2
    go_ret2
    rw [Hr.out]
    exact ⟨Hbg.out, _, _, rfl, HEf.out, HSg.out⟩
  have Hr : Hid (sysT l m = some (insT l m.src, [timer m.a1 m.src])) := Lib.hid (by rw [Hs2.out, if_neg h0])
  have hn' : 0 ≤ m.a1 := by omega
  have s0 := box_at HS1.out.box (j := 0) rfl
  have hal := (Below.refl w1.heap.size w1).alloc (Nat.le_refl _) (.cells #[.int .i64 m.src] 3)
  have HSa := Lib.hid (HS1.out.below hal)
  have Hba := Lib.hid (Hb1.out.trans (hal.mono (by omega)))
  have HX := Lib.hid (boxI w1.heap.size m.src (heap_alloc_new w1 (.cells #[.int .i64 m.src] 3)))
  have hlow : Below base w1 (w1.alloc (.cells #[.int .i64 m.src] 3)) := hal.mono (by omega)
  have hsl := HS1.out.lt
  clear hal
  go_wp2_with (at_builtin; refine wpList_appF elI Try.underlying22 HSa.out.row HX.out hlow rfl _ _ rfl rfl rfl ?c3 ?cB ?c5 ?_)
  case c3 => omega
  case cB => omega
  case c5 => simp; omega
  intro v8 w8 hown8 hbel8 hk8 hn8
  obtain ⟨N, hN⟩ : ∃ N, N = (l ++ [m.src]).length := ⟨_, rfl⟩
  have hrow8 : w8.ownsRow base 3 1 v8 N ((l ++ [m.src]).flatMap encT) := by
    rw [hN, List.length_append, List.flatMap_append]
    exact hown8
  obtain ⟨a8, c8, rfl⟩ := own_slice hrow8
  have hns : s ∉ (Value.slice va l.length vc).ownBlock.toList := fun hm => HS1.out.ne (by simpa using hm)
  have hx8 := (hk8.block s (HSa.out.lt) hns).trans HSa.out.box
  have hne8 : ∀ r, (Value.slice a8 N c8).ownBlock = some r → r ≠ s := fun r hr e => by
    rcases hn8 r (by simpa using hr) with h | h
    · subst e; exact hns (by simpa using h)
    · have := HSa.out.lt
      omega
  have f8 := box_free hx8 0
  have e8 := box_at hx8 (j := 0) rfl
  have hks : Keep [s] w8 (w8.setCell ⟨s, 0, none⟩ (.slice a8 N c8)) := (Keep.refl [s] w8).setCell (by simp) _
  obtain ⟨w9, hw9⟩ : ∃ w9, w9 = w8.setCell ⟨s, 0, none⟩ (.slice a8 N c8) := ⟨_, rfl⟩
  have hx9 : w9.heap[s]? = some (.cells #[.slice a8 N c8] 37 (0, 0)) := by rw [hw9]; exact box_set hx8
  have hrow9 : w9.ownsRow base 3 1 (.slice a8 N c8) N ((l ++ [m.src]).flatMap encT) := by
    rw [hw9]
    exact own_keep hrow8 hks (fun r hr hm => hne8 r hr (List.mem_singleton.1 hm))
  have hb9 : Below base w w9 := by rw [hw9]; exact (Hb1.out.trans hbel8).setCell hlo _
  have HSrt := Lib.hid (sort_any (l := l ++ [m.src]) (v := .slice a8 N c8) (by rw [← hN]; exact hrow9) (by rw [List.length_append, List.length_singleton]; omega))
  have Hx9 := Lib.hid hx9
  have Hb9 := Lib.hid hb9
  have hne9 : s ∉ (Value.slice a8 N c8).ownBlock.toList := fun hm => hne8 s (by simpa using hm) rfl
  have hlo9 : ∀ r ∈ (Value.slice a8 N c8).ownBlock.toList, base ≤ r := fun r hr => (hrow9.lt r (by simpa using hr)).1
  have e9 := box_at hx9 (j := 0) rfl
  have hins : (l ++ [m.src]).mergeSort (fun x y => decide (x ≤ y)) = insT l m.src := rfl
  have hs89 : w8.heap.size = w9.heap.size := by rw [hw9]; simp
  have hsl9 : s < w9.heap.size := (Array.getElem?_eq_some_iff.1 hx9).1
  have Hne9 := Lib.hid hne9; have Hlo9 := Lib.hid hlo9; have Hne8 := Lib.hid hne8
  have HW9 := Lib.hid hw9
  clear hN
  clear hown8 hbel8 hk8 hn8 hrow8 hrow9 hx8 hx9 hb9 hks hns hne8 hne9 hlo9 hw9 c0
  go_upto_region 13 with (fail)
  rw [← HW9.out]
  clear HW9 e8 f8
  go_wp2_with fail
  refine HSrt.out.mono ?_
  rintro e w10 ⟨rfl, hrow10, hk10⟩
  rw [hins] at hrow10
  have hx10 := (hk10.block s hsl9 Hne9.out).trans Hx9.out
  have HSt : Hid (St w10 base s _ (insT l m.src)) := Lib.hid ⟨hx10, hrow10, fun e => Hne8.out s e rfl, hlo⟩
  have Hb10 := Lib.hid (Hb9.out.trans (hk10.below (B := base) (by have := Hb9.out.size; omega) Hlo9.out))
  have hs10 := hk10.size
  have hbs := Hb9.out.size
  clear hrow10 hk10 hx10 hins
  go_wp2_with fail
  refine (timer_any m.a1 m.src _).mono ?_
  rintro e w11 ⟨rfl, hb11⟩
  simp only [encE, reply, timer, send]
  have HSf := Lib.hid (HSt.out.below hb11)
  have Hbf := Lib.hid (Hb10.out.trans (hb11.mono (by omega)))
  have hws2 := hb11.size
  clear hb11
  have hal := (Below.refl w11.heap.size w11).alloc (Nat.le_refl _) (.cells (encE (timer m.a1 m.src)).toArray 62)
  have HEf := Lib.hid (box1 w11.heap.size (timer m.a1 m.src) (heap_alloc_new w11 (.cells (encE (timer m.a1 m.src)).toArray 62)))
  have HSg := Lib.hid (HSf.out.below hal)
  have Hbg := Lib.hid (Hbf.out.trans (hal.mono (by omega)))
  clear hal HSf Hbf
  go_wp2
  go_ret2
  rw [Hr.out]
  exact ⟨Hbg.out, _, _, rfl, HEf.out, HSg.out⟩
end Go.Proofs.Ytdelemmoiaiooaa
