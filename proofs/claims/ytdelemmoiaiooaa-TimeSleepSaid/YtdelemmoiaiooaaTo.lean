/- time: take -/
import Derived.Test.YtdelemmoiaiooaaTn
namespace Go.Proofs.Ytdelemmoiaiooaa
open Go.RowKit Go.Bs Go.Cl Go.Rw Go.Ti Go.Wi Go.Sort Go.So
theorem elE : Rw.Elem Try.prog 31 62 15 152 (.agg (encE ⟨0, 0, 0, 0, 0, 0⟩).toArray) := ⟨Try.underlying31, by kernel_rfl, rfl, by decide⟩
set_option maxRecDepth 100000 in
set_option maxHeartbeats 8000000 in
theorem take_any (s base : Nat) (v dv : Value) (l : List Int) (m : Ms) (w : World) (hl : l.length ≤ 900) (h : St w base s v l) (hd : ∃ a n c, dv = .slice a n c) :
    Calls Try.prog 27 #[.pointer (some ⟨s, 0, none⟩), .agg (msgC m dv)] w (RetT (takeT l m) base s w) := by
  have Hsys := Lib.hid (fun w h => system_any s base v dv l m w hl h hd)
  obtain ⟨da, dn, dc, rfl⟩ := hd
  obtain ⟨va, vc, rfl⟩ := own_slice h.row
  obtain ⟨W, hW⟩ : ∃ W, W = w.alloc (.cells (msgC m (.slice da dn dc)) 28) := ⟨_, rfl⟩
  have hb : Below w.heap.size w W := by rw [hW]; exact (Below.refl w.heap.size w).alloc (Nat.le_refl _) _
  have hx : W.heap[w.heap.size]? = some (.cells (msgC m (.slice da dn dc)) 28 (0, 0)) := by rw [hW]; exact heap_alloc_new w _
  have hbw : base ≤ w.heap.size := Nat.le_trans h.lo (Nat.le_of_lt h.lt)
  have hlo := h.lo
  have hrl : ∀ r, (Value.slice va l.length vc).ownBlock = some r → r < W.heap.size := fun r hr => by have := (h.row.lt r hr).2; have := hb.size; omega
  have HS := Lib.hid (h.below hb)
  have Hb := Lib.hid (hb.mono hbw)
  have Hx := Lib.hid hx
  have hws := hb.size
  have c0 := box_at hx (j := 0) rfl
  have c1 := box_at hx (j := 1) rfl
  have c2 := box_at hx (j := 2) rfl
  have c3 := box_at hx (j := 3) rfl
  have c4 := box_at hx (j := 4) rfl
  have c5 := box_at hx (j := 5) rfl
  have c6 := box_at hx (j := 6) rfl
  have c7 := box_at hx (j := 7) rfl
  have c8 := box_at hx (j := 8) rfl
  have HW := Lib.hid hW
  have hsl := h.lt
  have Hrl := Lib.hid hrl
  clear hb hx h hW hrl
  unfold msgC at c0 c1 c2 c3 c4 c5 c6 c7 c8 HW Hsys Hx
  unfold msgC
  go_enter Try.func27, Try.ntmps27
  go_upto_region 1 with (fail)
  rw [← HW.out]
  clear HW
  by_cases hdst : m.dst = 10
  rotate_left
  · have Hr : Hid (takeT l m = none) := Lib.hid (by unfold takeT; rw [if_pos hdst])
    go_wp2
    go_ret2
    rw [Hr.out]
    exact ⟨Hb.out, rfl⟩
  have hTk : takeT l m = (if m.kind = 6 ∧ m.src = 1 then some (l, [send 1 7 m.a0])
    else if m.kind = 1 then sysT l m
    else if m.kind = 4 ∧ m.src = 0 ∧ usr m.a0 = true then some (delT l m.a0, if m.a0 ∈ l then [reply m.a0 0] else [])
    else if m.kind = 16 ∧ m.src = 3 ∧ usr m.a0 = true then some (delT l m.a0, (if m.a0 ∈ l then [timer (-1) m.a0] else []) ++ [send 3 17 m.a0])
    else none) := by unfold takeT; rw [if_neg (by simp [hdst])]
  have HTk := Lib.hid hTk
  clear hTk
  rw [hdst] at c1
  by_cases h6 : m.kind = 6
  · rw [h6] at c2
    by_cases hs1 : m.src = 1
    · have Hr : Hid (takeT l m = some (l, [send 1 7 m.a0])) := Lib.hid (by rw [HTk.out, if_pos ⟨h6, hs1⟩])
      rw [hs1] at c0
      go_wp2_with fail
      refine (send_any 1 7 m.a0 _).mono ?_
      rintro e w2 ⟨rfl, hb2⟩
      simp only [encE, reply, timer, send]
      have hz2 := hb2.size
      have hal2 := (Below.refl w2.heap.size w2).alloc (Nat.le_refl _) (.cells (encE (send 1 7 m.a0)).toArray 62)
      have hbb2 : Below W.heap.size W (w2.alloc (.cells (encE (send 1 7 m.a0)).toArray 62)) := hb2.trans (hal2.mono hz2)
      have HS2 := Lib.hid (HS.out.below hbb2)
      have Hb2 := Lib.hid (Hb.out.trans (hbb2.mono (by omega)))
      have HE2 := Lib.hid (box1 w2.heap.size (send 1 7 m.a0) (heap_alloc_new w2 (.cells (encE (send 1 7 m.a0)).toArray 62)))
      clear hb2 hal2 hbb2 c0 c1 c2 c3 c4 c5 c6 c7 c8
      go_wp2
      go_ret2
      rw [Hr.out]
      exact ⟨Hb2.out, _, _, rfl, HE2.out, HS2.out⟩
    · have Hr : Hid (takeT l m = none) := Lib.hid (by rw [HTk.out]; rw [if_neg (by simp [hs1]), if_neg (by omega), if_neg (by omega), if_neg (by omega)])
      go_wp2
      go_ret2
      rw [Hr.out]
      exact ⟨Hb.out, rfl⟩
  by_cases h1 : m.kind = 1
  · have Hr : Hid (takeT l m = sysT l m) := Lib.hid (by rw [HTk.out, if_neg (by omega), if_pos h1])
    have Hc := Lib.hid (Hsys.out W HS.out)
    rw [h1] at c2
    rw [h1, hdst] at Hc
    have HX := Hx.out
    rw [h1, hdst] at HX
    go_wp2_with fail
    refine Hc.out.mono ?_
    rintro e w1 ⟨hb1, hres⟩
    have Hb1 := Lib.hid (Hb.out.trans hb1)
    have Hr1 := Hr.out
    cases hsr : sysT l m with
    | none =>
      rw [hsr] at hres Hr1
      subst hres
      have HR := Lib.hid Hr1
      clear hb1 Hr1 hsr Hr HX
      go_wp2
      go_ret2
      rw [HR.out]
      exact ⟨Hb1.out, rfl⟩
    | some q =>
      obtain ⟨l1, es⟩ := q
      rw [hsr] at hres Hr1
      obtain ⟨ev, v1, rfl, hE, hS1⟩ := hres
      obtain ⟨ea, ec, hev⟩ := Raw.slice hE
      have HR := Lib.hid Hr1
      have HE := Lib.hid hE
      have HS1 := Lib.hid hS1
      have Hev := Lib.hid hev
      clear hb1 Hr1 hsr Hr HX hE hS1 hev
      go_wp2
      go_ret2
      rw [HR.out]
      exact ⟨Hb1.out, _, _, rfl, HE.out, HS1.out⟩
  by_cases hk : m.kind = 4
  · rw [hk] at c2
    by_cases hs0 : m.src = 0
    rotate_left
    · have Hr : Hid (takeT l m = none) := Lib.hid (by rw [HTk.out]; rw [if_neg (by omega), if_neg (by omega), if_neg (by omega), if_neg (by omega)])
      go_wp2
      go_ret2
      rw [Hr.out]
      exact ⟨Hb.out, rfl⟩
    rw [hs0] at c0
    cases hu : usr m.a0
    · have Hr : Hid (takeT l m = none) := Lib.hid (by rw [HTk.out]; rw [if_neg (by omega), if_neg (by omega), if_neg (fun h => by rw [hu] at h; cases h.2.2), if_neg (fun h => by rw [hu] at h; cases h.2.2)])
      go_wp2_with fail
      refine (user_is m.a0 false _ hu).mono ?_
      rintro e w1 ⟨rfl, rfl⟩
      clear hu
      go_wp2
      go_ret2
      rw [Hr.out]
      exact ⟨Hb.out, rfl⟩
    go_wp2_with fail
    refine (user_is m.a0 true _ hu).mono ?_
    rintro e w1 ⟨rfl, rfl⟩
    cases hm : decide (m.a0 ∈ l)
    · have hnm : m.a0 ∉ l := by simpa using hm
      have Hr : Hid (takeT l m = some (delT l m.a0, [])) := Lib.hid (by rw [HTk.out, if_neg (by omega), if_neg (by omega), if_pos ⟨hk, hs0, hu⟩, if_neg hnm])
      clear hnm hu
      go_wp2_with fail
      refine (sleeps_is s base _ l m.a0 false _ (by omega) HS.out hm).mono ?_
      rintro e w2 ⟨rfl, hb2⟩
      have HS2 := Lib.hid (HS.out.below hb2)
      have Hb2 := Lib.hid (Hb.out.trans (hb2.mono (by omega)))
      have hz2 := hb2.size
      clear hb2 hm
      go_wp2_with fail
      refine (wake_any s base _ l m.a0 _ (by omega) HS2.out).mono ?_
      rintro e w3 ⟨⟨u, rfl⟩, v', hS3, hb3, hk3, _⟩
      have HS3 := Lib.hid hS3
      have Hb3 := Lib.hid (Hb2.out.trans hb3)
      have hz3 := hk3.size
      clear hS3 hb3 hk3 c0 c1 c2 c3 c4 c5 c6 c7 c8
      go_wp2
      go_ret2
      rw [Hr.out]
      exact ⟨Hb3.out, _, _, rfl, Raw.empty _ _ _, HS3.out⟩
    · have hnm : m.a0 ∈ l := by simpa using hm
      have Hr : Hid (takeT l m = some (delT l m.a0, [reply m.a0 0])) := Lib.hid (by rw [HTk.out, if_neg (by omega), if_neg (by omega), if_pos ⟨hk, hs0, hu⟩, if_pos hnm])
      clear hnm hu
      go_wp2_with fail
      refine (sleeps_is s base _ l m.a0 true _ (by omega) HS.out hm).mono ?_
      rintro e w2 ⟨rfl, hb2⟩
      have HS2 := Lib.hid (HS.out.below hb2)
      have Hb2 := Lib.hid (Hb.out.trans (hb2.mono (by omega)))
      have hz2 := hb2.size
      clear hb2 hm c0 c1 c2 c3 c4 c5 c6 c7 c8
      go_wp2_with fail
      refine (reply_any m.a0 0 _).mono ?_
      rintro e w4 ⟨rfl, hb4⟩
      simp only [encE, reply, timer, send]
      have hz4 := hb4.size
      have hal4 := (Below.refl w4.heap.size w4).alloc (Nat.le_refl _) (.cells (encE (reply m.a0 0)).toArray 62)
      have hbb4 : Below w2.heap.size w2 (w4.alloc (.cells (encE (reply m.a0 0)).toArray 62)) := hb4.trans (hal4.mono hz4)
      have HS4 := Lib.hid (HS2.out.below hbb4)
      have Hb4 := Lib.hid (Hb2.out.trans (hbb4.mono (by omega)))
      have HE4 := Lib.hid (box1 w4.heap.size (reply m.a0 0) (heap_alloc_new w4 (.cells (encE (reply m.a0 0)).toArray 62)))
      have HN := Lib.hid (World.ownsRow_nil (w4.alloc (.cells (encE (reply m.a0 0)).toArray 62)) w4.heap.size 62 15)
      have hz4b := hbb4.size
      clear hb4 hal4 hbb4
      go_wp2_with (at_builtin; refine wpList_appF elE Try.underlying31 HN.out HE4.out Hb4.out rfl _ _ rfl rfl rfl ?c3 ?cB ?c5 ?_)
      case c3 => simp
      case cB => omega
      case c5 => simp
      intro v8 w8 hown8 hbel8 hk8 hn8
      have hown8' : w8.ownsRow w4.heap.size 62 15 v8 1 ([reply m.a0 0].flatMap encE) := by simpa using hown8
      have hF : ∀ f ∈ s :: (Value.slice va l.length vc).ownBlock.toList, f < w4.heap.size := fun f hf => by
        rcases List.mem_cons.1 hf with rfl | hf
        · omega
        · have := Hrl.out f (by simpa using hf); omega
      have HF := Lib.hid hF
      have hr8 : Raw (s :: (Value.slice va l.length vc).ownBlock.toList) 15 w8 v8 1 ([reply m.a0 0].flatMap encE) := Raw.of_own hown8' (encE_one _) hF
      have HS8 := Lib.hid (HS4.out.keep hk8 (by simp [Value.ownBlock]) (fun r _ => by simp [Value.ownBlock]))
      have Hb8 := Lib.hid hbel8
      have hz8 : w4.heap.size + 1 ≤ w8.heap.size := by simpa using hk8.size
      have Hr8 := Lib.hid hr8
      have Ho8 := Lib.hid hown8'
      obtain ⟨a8, c8, rfl⟩ := Raw.slice hr8
      clear hown8 hbel8 hk8 hn8 hown8' hr8 hF
      go_wp2_with fail
      refine (wake_any s base _ l m.a0 _ (by omega) HS8.out).mono ?_
      rintro e w9 ⟨⟨u, rfl⟩, v', hS9, hb9, hk9, hvb9⟩
      have HS9 := Lib.hid hS9
      have Hb9 := Lib.hid (Hb8.out.trans hb9)
      have hz9 := hk9.size
      have HEf : Hid (SlE w9 _ [reply m.a0 0]) := Lib.hid (Raw.keep Hr8.out hk9 (fun f hf => .inl hf) (fun f hf => by cases hf))
      clear hS9 hb9 hk9 hvb9
      go_wp2
      go_ret2
      rw [Hr.out]
      exact ⟨Hb9.out, _, _, rfl, HEf.out, HS9.out⟩
  have hk4 := hk
  clear hk
  by_cases hk : m.kind = 16
  · rw [hk] at c2
    by_cases hs0 : m.src = 3
    rotate_left
    · have Hr : Hid (takeT l m = none) := Lib.hid (by rw [HTk.out]; rw [if_neg (by omega), if_neg (by omega), if_neg (by omega), if_neg (by omega)])
      go_wp2
      go_ret2
      rw [Hr.out]
      exact ⟨Hb.out, rfl⟩
    rw [hs0] at c0
    cases hu : usr m.a0
    · have Hr : Hid (takeT l m = none) := Lib.hid (by rw [HTk.out]; rw [if_neg (by omega), if_neg (by omega), if_neg (fun h => by rw [hu] at h; cases h.2.2), if_neg (fun h => by rw [hu] at h; cases h.2.2)])
      go_wp2_with fail
      refine (user_is m.a0 false _ hu).mono ?_
      rintro e w1 ⟨rfl, rfl⟩
      clear hu
      go_wp2
      go_ret2
      rw [Hr.out]
      exact ⟨Hb.out, rfl⟩
    go_wp2_with fail
    refine (user_is m.a0 true _ hu).mono ?_
    rintro e w1 ⟨rfl, rfl⟩
    cases hm : decide (m.a0 ∈ l)
    · have hnm : m.a0 ∉ l := by simpa using hm
      have Hr : Hid (takeT l m = some (delT l m.a0, [send 3 17 m.a0])) := Lib.hid (by rw [HTk.out, if_neg (by omega), if_neg (by omega), if_neg (by omega), if_pos ⟨hk, hs0, hu⟩, if_neg hnm]; rfl)
      clear hnm hu
      go_wp2_with fail
      refine (sleeps_is s base _ l m.a0 false _ (by omega) HS.out hm).mono ?_
      rintro e w2 ⟨rfl, hb2⟩
      have HS2 := Lib.hid (HS.out.below hb2)
      have Hb2 := Lib.hid (Hb.out.trans (hb2.mono (by omega)))
      have hz2 := hb2.size
      clear hb2 hm
      go_wp2_with fail
      refine (wake_any s base _ l m.a0 _ (by omega) HS2.out).mono ?_
      rintro e w3 ⟨⟨u, rfl⟩, v', hS3, hb3, hk3, _⟩
      have HS3 := Lib.hid hS3
      have Hb3 := Lib.hid (Hb2.out.trans hb3)
      have hz3 := hk3.size
      clear hS3 hb3 hk3 c0 c1 c2 c3 c4 c5 c6 c7 c8
      go_wp2_with fail
      refine (send_any 3 17 m.a0 _).mono ?_
      rintro e w4 ⟨rfl, hb4⟩
      simp only [encE, reply, timer, send]
      have hz4 := hb4.size
      have hal4 := (Below.refl w4.heap.size w4).alloc (Nat.le_refl _) (.cells (encE (send 3 17 m.a0)).toArray 62)
      have hbb4 : Below w3.heap.size w3 (w4.alloc (.cells (encE (send 3 17 m.a0)).toArray 62)) := hb4.trans (hal4.mono hz4)
      have HS4 := Lib.hid (HS3.out.below hbb4)
      have Hb4 := Lib.hid (Hb3.out.trans (hbb4.mono (by omega)))
      have HE4 := Lib.hid (box1 w4.heap.size (send 3 17 m.a0) (heap_alloc_new w4 (.cells (encE (send 3 17 m.a0)).toArray 62)))
      have HN := Lib.hid (World.ownsRow_nil (w4.alloc (.cells (encE (send 3 17 m.a0)).toArray 62)) w4.heap.size 62 15)
      have hz4b := hbb4.size
      clear hb4 hal4 hbb4
      go_wp2_with (at_builtin; refine wpList_appF elE Try.underlying31 HN.out HE4.out Hb4.out rfl _ _ rfl rfl rfl ?c3 ?cB ?c5 ?_)
      case c3 => simp
      case cB => omega
      case c5 => simp
      intro v8 w8 hown8 hbel8 hk8 hn8
      have HEf : Hid (SlE w8 v8 [send 3 17 m.a0]) := Lib.hid (Raw.of_own (by simpa using hown8) (encE_one _) (fun f hf => by cases hf))
      have HSf := Lib.hid (HS4.out.keep hk8 (by simp [Value.ownBlock]) (fun r _ => by simp [Value.ownBlock]))
      have Hb8 := Lib.hid hbel8
      obtain ⟨a8, c8, rfl⟩ := Raw.slice HEf.out
      clear hown8 hbel8 hk8 hn8
      go_wp2
      go_ret2
      rw [Hr.out]
      exact ⟨Hb8.out, _, _, rfl, HEf.out, HSf.out⟩
    · have hnm : m.a0 ∈ l := by simpa using hm
      have Hr : Hid (takeT l m = some (delT l m.a0, [timer (-1) m.a0, send 3 17 m.a0])) := Lib.hid (by rw [HTk.out, if_neg (by omega), if_neg (by omega), if_neg (by omega), if_pos ⟨hk, hs0, hu⟩, if_pos hnm]; rfl)
      clear hnm hu
      go_wp2_with fail
      refine (sleeps_is s base _ l m.a0 true _ (by omega) HS.out hm).mono ?_
      rintro e w2 ⟨rfl, hb2⟩
      have HS2 := Lib.hid (HS.out.below hb2)
      have Hb2 := Lib.hid (Hb.out.trans (hb2.mono (by omega)))
      have hz2 := hb2.size
      clear hb2 hm c0 c1 c2 c3 c4 c5 c6 c7 c8
      go_wp2_with fail
      refine (timer_any (-1) m.a0 _).mono ?_
      rintro e w4 ⟨rfl, hb4⟩
      simp only [encE, reply, timer, send]
      have hz4 := hb4.size
      have hal4 := (Below.refl w4.heap.size w4).alloc (Nat.le_refl _) (.cells (encE (timer (-1) m.a0)).toArray 62)
      have hbb4 : Below w2.heap.size w2 (w4.alloc (.cells (encE (timer (-1) m.a0)).toArray 62)) := hb4.trans (hal4.mono hz4)
      have HS4 := Lib.hid (HS2.out.below hbb4)
      have Hb4 := Lib.hid (Hb2.out.trans (hbb4.mono (by omega)))
      have HE4 := Lib.hid (box1 w4.heap.size (timer (-1) m.a0) (heap_alloc_new w4 (.cells (encE (timer (-1) m.a0)).toArray 62)))
      have HN := Lib.hid (World.ownsRow_nil (w4.alloc (.cells (encE (timer (-1) m.a0)).toArray 62)) w4.heap.size 62 15)
      have hz4b := hbb4.size
      clear hb4 hal4 hbb4
      go_wp2_with (at_builtin; refine wpList_appF elE Try.underlying31 HN.out HE4.out Hb4.out rfl _ _ rfl rfl rfl ?c3 ?cB ?c5 ?_)
      case c3 => simp
      case cB => omega
      case c5 => simp
      intro v8 w8 hown8 hbel8 hk8 hn8
      have hown8' : w8.ownsRow w4.heap.size 62 15 v8 1 ([timer (-1) m.a0].flatMap encE) := by simpa using hown8
      have hF : ∀ f ∈ s :: (Value.slice va l.length vc).ownBlock.toList, f < w4.heap.size := fun f hf => by
        rcases List.mem_cons.1 hf with rfl | hf
        · omega
        · have := Hrl.out f (by simpa using hf); omega
      have HF := Lib.hid hF
      have hr8 : Raw (s :: (Value.slice va l.length vc).ownBlock.toList) 15 w8 v8 1 ([timer (-1) m.a0].flatMap encE) := Raw.of_own hown8' (encE_one _) hF
      have HS8 := Lib.hid (HS4.out.keep hk8 (by simp [Value.ownBlock]) (fun r _ => by simp [Value.ownBlock]))
      have Hb8 := Lib.hid hbel8
      have hz8 : w4.heap.size + 1 ≤ w8.heap.size := by simpa using hk8.size
      have Hr8 := Lib.hid hr8
      have Ho8 := Lib.hid hown8'
      obtain ⟨a8, c8, rfl⟩ := Raw.slice hr8
      clear hown8 hbel8 hk8 hn8 hown8' hr8 hF
      go_wp2_with fail
      refine (wake_any s base _ l m.a0 _ (by omega) HS8.out).mono ?_
      rintro e w9 ⟨⟨u, rfl⟩, v', hS9, hb9, hk9, hvb9⟩
      have HS9 := Lib.hid hS9
      have Hb9 := Lib.hid (Hb8.out.trans hb9)
      have hz9 := hk9.size
      have Ho9 := Lib.hid (own_keep Ho8.out hk9 (fun r hr hm => by
        have h1 := (Ho8.out.lt r hr).1
        have h2 := HF.out r hm
        omega))
      have hvr : ∀ r, v'.ownBlock = some r → r < w4.heap.size := fun r hr => by
        rw [hvb9] at hr
        exact HF.out r (List.mem_cons_of_mem _ (by simpa using hr))
      have Hvr := Lib.hid hvr
      clear hS9 hb9 hk9 hvb9 hvr
      go_wp2_with fail
      refine (send_any 3 17 m.a0 _).mono ?_
      rintro e w10 ⟨rfl, hb10⟩
      simp only [encE, reply, timer, send]
      have hz10 := hb10.size
      have hal10 := (Below.refl w10.heap.size w10).alloc (Nat.le_refl _) (.cells (encE (send 3 17 m.a0)).toArray 62)
      have hbb10 : Below w9.heap.size w9 (w10.alloc (.cells (encE (send 3 17 m.a0)).toArray 62)) := hb10.trans (hal10.mono hz10)
      have HS10 := Lib.hid (HS9.out.below hbb10)
      have Hb10 := Lib.hid (Hb9.out.trans (hbb10.mono (by omega)))
      have HE10 := Lib.hid (box1 w10.heap.size (send 3 17 m.a0) (heap_alloc_new w10 (.cells (encE (send 3 17 m.a0)).toArray 62)))
      have Ho10 := Lib.hid (own_below Ho9.out hbb10 (Nat.le_refl _))
      have hz10b := hbb10.size
      clear hb10 hal10 hbb10
      go_wp2_with (at_builtin; refine wpList_appF elE Try.underlying31 Ho10.out HE10.out Hb10.out rfl _ _ rfl rfl rfl ?c3 ?cB ?c5 ?_)
      case c3 => simp
      case cB => omega
      case c5 => simp; omega
      intro v12 w12 hown12 hbel12 hk12 hn12
      have HEf : Hid (SlE w12 v12 [timer (-1) m.a0, send 3 17 m.a0]) := Lib.hid (Raw.of_own (by simpa using hown12) (encE_one _) (fun f hf => by cases hf))
      have hge : ∀ r ∈ (Value.slice a8 1 c8).ownBlock.toList, w4.heap.size ≤ r := fun r hr => (Ho10.out.lt r (by simpa using hr)).1
      have HSf := Lib.hid (HS10.out.keep hk12 (fun hm => by have := hge s hm; have := HF.out s List.mem_cons_self; omega) (fun r hr hm => by have := hge r hm; have := Hvr.out r hr; omega))
      have Hb12 := Lib.hid hbel12
      obtain ⟨a12, c12, rfl⟩ := Raw.slice HEf.out
      clear hown12 hbel12 hk12 hn12 hge
      go_wp2
      go_ret2
      rw [Hr.out]
      exact ⟨Hb12.out, _, _, rfl, HEf.out, HSf.out⟩
  have Hr : Hid (takeT l m = none) := Lib.hid (by rw [HTk.out]; rw [if_neg (by omega), if_neg (by omega), if_neg (by omega), if_neg (by omega)])
  go_wp2
  go_ret2
  rw [Hr.out]
  exact ⟨Hb.out, rfl⟩
end Go.Proofs.Ytdelemmoiaiooaa
