/- Revive: restart, failed, pong -/
import Derived.Test.YthmnhpakgjnngaaGreatDoorVe
import Derived.Deep.WholeRow
import Derived.Laws.Rows
namespace Go.Rv
open Go Go.RowKit Go.Bs Go.Cl Go.Rw Go.Dt
theorem results_c {P : Program} {fn : Func} {q : Tmp} {ty : TypeId} (h : fn.results = #[.cell q ty]) (tmps : Array Value) (w : World) (g : Nat) (t : TypeId) (cs : Array Value) (fr : Nat × Nat) (d : TypeDesc)
    (hp : tmps.getD q undef = .pointer (some ⟨g, 0, none⟩)) (hg : w.heap[g]? = some (.cells cs t fr))
    (hu : P.underlying ty = some d) (hd : (match d with | .struct _ | .array _ _ => true | _ => false) = true) (hi : (P.info? ty).map (·.size) = some cs.size) :
    (results fn tmps).run P w = .ok (.agg cs) w := by
  have hp' : tmps[q]?.getD undef = .pointer (some ⟨g, 0, none⟩) := by simpa using hp
  simp [results, h, hp', asAddr, run_loadVar_row w g t ty cs fr d hg hu hd hi]
theorem own_same {w w' : World} {base e k n : Nat} {v : Value} {xs : List Value} (h : w.ownsRow base e k v n xs) (hb : ∀ r, v.ownBlock = some r → w'.heap[r]? = w.heap[r]?) : w'.ownsRow base e k v n xs := by
  refine ⟨h.1, ?_⟩
  rcases h.2 with h2 | ⟨g', cap, cur', hv', hb', hg', rest⟩
  · exact .inl h2
  · exact .inr ⟨g', cap, cur', hv', hb', (hb g' (by rw [hv']; rfl)).trans hg', rest⟩
end Go.Rv
namespace Go.Proofs.YthmnhpakgjnngaaGreatDoor
open Go.RowKit Go.Bs Go.Cl Go.Rw Go.Dt Go.Rv
set_option maxRecDepth 100000 in
theorem pong_ne (r x y : Int) (l : List Int) (v1 : Value) (w : World) (hl : l.length ≤ 1000) (h1 : Ints [] w v1 l) (ok : OkB r l) (hx : x ∈ l) (hy : y ≠ r) :
    Calls Tryz.prog 69 #[.agg #[.int .i64 r, v1], .int .i64 x, .int .i64 y] w fun e w' => e = .returned (.tuple #[.agg #[.int .i64 0, .slice none 0 0], .int .i64 8]) ∧ Below w.heap.size w w' := by
  obtain ⟨a1, c1, rfl⟩ := Raw.slice h1
  have H1 := Lib.hid h1; have OK := Lib.hid ok
  clear h1 ok
  obtain ⟨u, hu⟩ : ∃ u, u = ((w.alloc (.cells #[.int .i64 r, .slice a1 l.length c1] 38)).alloc (.cells #[.int .i64 0, .slice none 0 0] 38)) := ⟨_, rfl⟩
  have HU := Lib.hid hu
  have HB : Hid (Below w.heap.size w u) := Lib.hid (by rw [hu]; exact ((Below.refl _ w).alloc (Nat.le_refl _) _).alloc (by simp) _)
  have HPu : Hid (u.heap[w.heap.size]? = some (.cells #[.int .i64 r, .slice a1 l.length c1] 38 (0, 0))) := Lib.hid (by rw [hu]; exact (((Below.refl (w.alloc _).heap.size _).alloc (Nat.le_refl _) _).block w.heap.size (by simp)).trans (heap_alloc_new w _))
  have HRu : Hid (u.heap[w.heap.size + 1]? = some (.cells #[.int .i64 0, .slice none 0 0] 38 (0, 0))) := Lib.hid (by rw [hu]; have := heap_alloc_new (w.alloc (.cells #[.int .i64 r, .slice a1 l.length c1] 38)) (.cells #[.int .i64 0, .slice none 0 0] 38); simpa using this)
  have H1u := Lib.hid (Raw.below H1.out HB.out)
  have hus : u.heap.size = w.heap.size + 2 := by rw [hu]; simp
  clear hu
  go_enter Tryz.func69, Tryz.ntmps69
  go_upto_region 1 with (fail)
  rw [← HU.out]
  obtain ⟨P, hP⟩ : ∃ P, P = w.heap.size := ⟨_, rfl⟩
  obtain ⟨R, hR⟩ : ∃ R, R = w.heap.size + 1 := ⟨_, rfl⟩
  rw [← hR, ← hP]
  rw [← hP] at HPu; rw [← hR] at HRu
  have hPR : P < R := by omega
  have hRu : R < u.heap.size := by omega
  have hwP : w.heap.size ≤ P := by omega
  have hwu : w.heap.size ≤ u.heap.size := by omega
  clear hP hR hus HU
  have o0 := box_at HPu.out (j := 0) rfl
  have o1 := box_at HPu.out (j := 1) rfl
  go_wp2_with fail
  refine (valid_ok r l _ _ hl H1u.out OK.out).mono ?_
  rintro e w1 ⟨rfl, hb1⟩
  have HB1 : Hid (Below u.heap.size u w1) := Lib.hid hb1
  have hs1 := hb1.size
  have HP1 := Lib.hid ((HB1.out.block P (by omega)).trans HPu.out)
  have HR1 := Lib.hid ((HB1.out.block R (by omega)).trans HRu.out)
  clear hb1 o0 o1
  have o0 := box_at HP1.out (j := 0) rfl
  have o1 := box_at HP1.out (j := 1) rfl
  go_wp2_with fail
  refine (index_any l _ x _ hl (Raw.below H1u.out HB1.out)).mono ?_
  rintro e w2 ⟨hc, rfl⟩
  obtain ⟨k, hk, rfl⟩ : ∃ k : Nat, k < l.length ∧ e = .returned (.int .i64 k) := by
    rcases hc with ⟨k, hk, _, _, he⟩ | ⟨hn, _⟩
    · exact ⟨k, hk, he⟩
    · exact absurd hx hn
  have hy' : (y != r) = true := by simpa using hy
  clear hc hx hy
  have g0 := box_at HR1.out (j := 0) rfl
  have g1 := box_at HR1.out (j := 1) rfl
  have f0 := box_free HR1.out 0
  have f1 := box_free HR1.out 1
  go_wp2
  refine bodyPost_ret (results_ct rfl _ _ _ _ _ _ _ rfl (heap_set2 HR1.out _ _) Tryz.underlying38 rfl (by kernel_rfl)) rfl ?_
  have hk := keep_set2 w2 R (.int .i64 0) (.slice none 0 0)
  have hB6 := HB.out.trans (HB1.out.mono HB.out.size)
  refine ⟨rfl, hB6.trans (hk.below hB6.size (fun f hf => by rw [List.mem_singleton.1 hf]; omega))⟩
set_option maxRecDepth 100000 in
theorem ping_lim (r : Int) (l ts : List Int) (v1 v2 : Value) (w : World) (hl : l.length ≤ 1000) (ht : ts.length ≤ 1000) (h1 : Ints [] w v1 l) (h2 : Ints [] w v2 ts) (ok : OkB r l) (hr : r = 1000000000) (hp : ∀ x ∈ ts, 1 ≤ x ∧ x < 32) :
    Calls Tryz.prog 68 #[.agg #[.int .i64 r, v1], v2] w fun e w' => e = .returned (.tuple #[.agg #[.int .i64 0, .slice none 0 0], .slice none 0 0, .int .i64 6]) ∧ Below w.heap.size w w' := by
  obtain ⟨a1, c1, rfl⟩ := Raw.slice h1
  obtain ⟨a2, c2, rfl⟩ := Raw.slice h2
  have H1 := Lib.hid h1; have H2 := Lib.hid h2; have OK := Lib.hid ok; have HP := Lib.hid hp
  have HR0 := Lib.hid hr
  clear hr
  clear h1 h2 ok hp
  obtain ⟨u, hu⟩ : ∃ u, u = ((w.alloc (.cells #[.int .i64 r, .slice a1 l.length c1] 38)).alloc (.cells #[.int .i64 0, .slice none 0 0] 38)) := ⟨_, rfl⟩
  have HU := Lib.hid hu
  have HB : Hid (Below w.heap.size w u) := Lib.hid (by rw [hu]; exact ((Below.refl _ w).alloc (Nat.le_refl _) _).alloc (by simp) _)
  have HPu : Hid (u.heap[w.heap.size]? = some (.cells #[.int .i64 r, .slice a1 l.length c1] 38 (0, 0))) := Lib.hid (by rw [hu]; exact (((Below.refl (w.alloc _).heap.size _).alloc (Nat.le_refl _) _).block w.heap.size (by simp)).trans (heap_alloc_new w _))
  have HRu : Hid (u.heap[w.heap.size + 1]? = some (.cells #[.int .i64 0, .slice none 0 0] 38 (0, 0))) := Lib.hid (by rw [hu]; have := heap_alloc_new (w.alloc (.cells #[.int .i64 r, .slice a1 l.length c1] 38)) (.cells #[.int .i64 0, .slice none 0 0] 38); simpa using this)
  have H1u := Lib.hid (Raw.below H1.out HB.out)
  have H2u := Lib.hid (Raw.below H2.out HB.out)
  have hus : u.heap.size = w.heap.size + 2 := by rw [hu]; simp
  clear hu
  go_enter Tryz.func68, Tryz.ntmps68
  go_upto_region 1 with (fail)
  rw [← HU.out]
  obtain ⟨P, hP⟩ : ∃ P, P = w.heap.size := ⟨_, rfl⟩
  obtain ⟨R, hR⟩ : ∃ R, R = w.heap.size + 1 := ⟨_, rfl⟩
  rw [← hR, ← hP]
  rw [← hP] at HPu; rw [← hR] at HRu
  have hPR : P < R := by omega
  have hRu : R < u.heap.size := by omega
  have hwP : w.heap.size ≤ P := by omega
  have hwu : w.heap.size ≤ u.heap.size := by omega
  clear hP hR hus HU
  have o0 := box_at HPu.out (j := 0) rfl
  have o1 := box_at HPu.out (j := 1) rfl
  go_wp2_with fail
  refine (valid_ok r l _ _ hl H1u.out OK.out).mono ?_
  rintro e w1 ⟨rfl, hb1⟩
  have H21 := Lib.hid (Raw.below H2u.out hb1)
  have HB1 : Hid (Below u.heap.size u w1) := Lib.hid hb1
  have hs1 := hb1.size
  clear hb1 o0 o1
  have o0 := box_at ((HB1.out.block P (by omega)).trans HPu.out) (j := 0) rfl
  have o1 := box_at ((HB1.out.block P (by omega)).trans HPu.out) (j := 1) rfl
  go_wp2_with fail
  refine (contains_ok ts _ _ ht H21.out HP.out).mono ?_
  rintro e w2 ⟨rfl, rfl⟩
  obtain rfl := HR0.out
  have HR1 := Lib.hid ((HB1.out.block R (by omega)).trans HRu.out)
  have g0 := box_at HR1.out (j := 0) rfl
  have g1 := box_at HR1.out (j := 1) rfl
  have f0 := box_free HR1.out 0
  have f1 := box_free HR1.out 1
  go_wp2
  refine bodyPost_ret (results_ctt rfl _ _ _ _ _ _ _ rfl (heap_set2 HR1.out _ _) Tryz.underlying38 rfl (by kernel_rfl)) rfl ?_
  have hk := keep_set2 w2 R (.int .i64 0) (.slice none 0 0)
  have hB6 := HB.out.trans (HB1.out.mono HB.out.size)
  refine ⟨rfl, hB6.trans (hk.below hB6.size (fun f hf => by rw [List.mem_singleton.1 hf]; omega))⟩
/-- a row of another type stays -/
theorem KT.own {s base e k n : Nat} {w w' : World} {v : Value} {xs : List Value} {cs : Array Value} {fr : Nat × Nat} (h : KT s w w') (hs : w.heap[s]? = some (.cells cs 41 fr)) (ho : w.ownsRow base e k v n xs) (h1 : e ≠ 68) (h2 : e ≠ 41) : w'.ownsRow base e k v n xs :=
  own_same ho fun r hr => by
    obtain ⟨cur, hc⟩ := own_type ho hr
    refine h.block r (Array.getElem?_eq_some_iff.1 hc).1 (fun e' => ?_) (fun cs fr e' => ?_)
    · rw [e', hs] at hc; cases hc; exact h2 rfl
    · rw [hc] at e'; cases e'; exact h1 rfl
set_option maxRecDepth 100000 in
set_option maxHeartbeats 1000000 in
theorem restart_any (t m : Int) (w : World) : Calls Tryz.prog 65 #[.int .i64 t, .int .i64 m] w fun e w' => e = .returned (.agg #[.int .i64 16, .int .i64 t, .int .i64 m, .int .i64 0, .int .i64 0, .int .i64 0, .int .i64 0, .int .i64 0, .int .i64 0, .int .i64 0, .int .i64 0, .int .i64 0, .int .i64 0, .slice none 0 0, .slice none 0 0]) ∧ Below w.heap.size w w' := by
  go_enter Tryz.func65, Tryz.ntmps65
  go_wp2
  exact bodyPost_ret (results_c rfl _ _ w.heap.size 58 _ _ _ rfl (heap_alloc_new w _) Tryz.underlying58 rfl (by kernel_rfl)) rfl ⟨rfl, (Below.refl _ _).alloc (Nat.le_refl _) _⟩
/-- other states' blocks stay -/
def KS (s : Nat) (w w' : World) : Prop := ∀ b cs fr, b ≠ s → w.heap[b]? = some (.cells cs 41 fr) → w'.heap[b]? = some (.cells cs 41 fr)
theorem KS.of_below {s : Nat} {w w' : World} (h : Below w.heap.size w w') : KS s w w' := fun b _ _ _ hb => (h.block b (Array.getElem?_eq_some_iff.1 hb).1).trans hb
theorem KS.trans {s : Nat} {a b c : World} (h : KS s a b) (k : KS s b c) : KS s a c := fun x cs fr hs hx => k x cs fr hs (h x cs fr hs hx)
theorem KT.ks {s : Nat} {w w' : World} (h : KT s w w') : KS s w w' := fun b _ _ hs hb => h.cells hb hs (by decide)
theorem KS.put {s g : Nat} {a b c : World} (h : KS s a b) (hk : Keep [g] b c) (hg : g = s ∨ ∃ cs t fr, t ≠ 41 ∧ b.heap[g]? = some (.cells cs t fr)) : KS s a c := fun x cs fr hs hx => by
  have hb := h x cs fr hs hx
  refine (hk.block x (Array.getElem?_eq_some_iff.1 hb).1 (fun hm => ?_)).trans hb
  rw [List.mem_singleton] at hm
  subst hm
  rcases hg with hg | ⟨cs', t, fr', ht, hg⟩
  · exact hs hg
  · rw [hb] at hg; cases hg; exact ht rfl
/-- the state's block; histories and waiting list are rows of the call's own -/
structure Stt (w : World) (base s : Nat) (wv hv : Value) (x : Sv) : Prop where
  st : St w base s x.r wv hv x.hs
  wt : w.ownsRow base 3 1 wv x.wt.length (x.wt.map (Value.int .i64))
/-- the effects' row is one of effects -/
def EvT (w : World) (v : Value) : Prop := ∀ q, v.ownBlock = some q → ∃ cs fr, w.heap[q]? = some (.cells cs 58 fr)
theorem raw_apart {F : List Nat} {w : World} {k n R : Nat} {v : Value} {xs : List Value} (h : Raw F k w v n xs) (hne : ∀ q, v.ownBlock = some q → q ≠ R) : Raw (R :: F) k w v n xs := by
  obtain ⟨h1, h2, ad, cap, rfl, h3, h4, h5⟩ := h
  refine ⟨h1, h2, ad, cap, rfl, h3, h4, fun h0 => ?_⟩
  obtain ⟨b, off, rfl, h6, h7, h8⟩ := h5 h0
  exact ⟨b, off, rfl, h6, fun hm => (List.mem_cons.1 hm).elim (fun e => hne b rfl e) h7, h8⟩
/-- a row of effects out of blocks that are not in F -/
def SlX (F : List Nat) (w : World) (v : Value) (l : List Ef) : Prop := Raw F 15 w v l.length (l.flatMap encE)
theorem SlX.toE {F : List Nat} {w : World} {v : Value} {l : List Ef} (h : SlX F w v l) : SlE w v l := Raw.to_nil h
theorem effs_keep {F : List Nat} {w w' : World} {v : Value} {es : List Ef} {R : Nat} {cs : Array Value} {fr : Nat × Nat} (h : SlX F w v es) (ht : EvT w v) (hk : Keep [R] w w') (hR : w.heap[R]? = some (.cells cs 41 fr)) : SlX F w' v es :=
  Raw.keep (F' := F) (raw_apart h (fun q hq e => by obtain ⟨cs', fr', hc⟩ := ht q hq; rw [e, hR] at hc; cases hc)) hk (fun f hf => .inl (by rw [List.mem_singleton.1 hf]; simp)) (fun f hf => .inl (List.mem_cons_of_mem _ hf))
def RetM (r : Option (Sv × List Ef)) (base s : Nat) (w : World) (e : Ending) (w' : World) : Prop := Below base w w' ∧ KS s w w' ∧ match r with
  | none => e = .returned (.tuple #[.slice none 0 0, .bool false])
  | some (x, es) => ∃ ev wv hv, e = .returned (.tuple #[ev, .bool true]) ∧ SlX (List.range base) w' ev es ∧ EvT w' ev ∧ Stt w' base s wv hv x
def failedV (x : Sv) (m : Ms) : Option (Sv × List Ef) :=
  if cmpt m.a0 && (decide (1 ≤ m.a1) && decide (m.a1 ≤ 6)) then some ({ x with hs := failH x.hs m.a0 m.a1 }, [rstE m.a0 (modeH x.hs m.a0)]) else none
set_option maxRecDepth 100000 in
set_option maxHeartbeats 2000000 in
theorem failed_any (base s : Nat) (wv hv : Value) (x : Sv) (m : Ms) (da : Option Addr) (dn dc : Nat) (w : World) (hok : VOk x) (h : Stt w base s wv hv x) :
    Calls Tryz.prog 41 #[.pointer (some ⟨s, 0, none⟩), .agg (msgC m (.slice da dn dc))] w (RetM (failedV x m) base s w) := by
  obtain ⟨ms, md, mk, mq, m0, m1, m2, m3⟩ := m
  obtain ⟨W, hW⟩ : ∃ W, W = w.alloc (.cells (msgC ⟨ms, md, mk, mq, m0, m1, m2, m3⟩ (.slice da dn dc)) 31) := ⟨_, rfl⟩
  have hb : Below w.heap.size w W := by rw [hW]; exact (Below.refl w.heap.size w).alloc (Nat.le_refl _) _
  have hx : W.heap[w.heap.size]? = some (.cells #[.int .i64 ms, .int .i64 md, .int .i64 mk, .int .i64 mq, .int .i64 m0, .int .i64 m1, .int .i64 m2, .int .i64 m3, .slice da dn dc] 31 (0, 0)) := by rw [hW]; exact heap_alloc_new w _
  have hlo := h.st.lo
  have hsl := h.st.lt
  have hbw : base ≤ w.heap.size := by omega
  have hws := hb.size
  have hd := (Below.refl W.heap.size W).drew
  have HS := Lib.hid (h.st.below hb |>.below hd)
  have HWT := Lib.hid (own_below (own_below h.wt hb (Nat.le_refl _)) hd (Nat.le_refl _))
  have HB := Lib.hid ((hb.mono hbw).trans (hd.mono (by omega)))
  have HKS : Hid (KS s w W.drew) := Lib.hid ((KS.of_below hb).trans (KS.of_below hd))
  have c4 := box_at hx (j := 4) rfl
  have c5 := box_at hx (j := 5) rfl
  have HW := Lib.hid hW
  have HOK := Lib.hid hok
  clear hb hx hW hd h hok
  unfold msgC at HW
  unfold msgC
  dsimp only at HW ⊢
  go_enter Tryz.func41, Tryz.ntmps41
  go_upto_region 1 with (fail)
  rw [← HW.out]
  refine Txt.wp_txt (by kernel_rfl) (by kernel_rfl) ?_
  go_wp2
  refine Txt.DrawPost.mk0 (by rfl) ?_
  obtain ⟨V, hV⟩ : ∃ V, V = W.drew := ⟨_, rfl⟩
  rw [← hV] at HS HWT HB HKS ⊢
  have hVs : W.heap.size = V.heap.size := by rw [hV]; rfl
  clear hV HW c4 c5
  cases hp : cmpt m0
  · have Hp := Lib.hid hp; clear hp
    have hr : Hid (failedV x ⟨ms, md, mk, mq, m0, m1, m2, m3⟩ = none) := Lib.hid (by unfold failedV; rw [if_neg (by simp [Hp.out])])
    go_wp2_with fail
    refine (cmpt_eq m0 false _ Hp.out).mono ?_
    rintro e w1 ⟨rfl, rfl⟩
    go_wp2
    go_ret2
    rw [hr.out]
    exact ⟨HB.out, HKS.out, rfl⟩
  have Hp := Lib.hid hp; clear hp
  by_cases hc : 1 ≤ m1 ∧ m1 ≤ 6
  · obtain ⟨hc1, hc2⟩ := hc
    have hr : Hid (failedV x ⟨ms, md, mk, mq, m0, m1, m2, m3⟩ = some ({ x with hs := failH x.hs m0 m1 }, [rstE m0 (modeH x.hs m0)])) := Lib.hid (by unfold failedV; rw [if_pos (by simp [Hp.out, hc1, hc2])])
    have hm0 : 2 ≤ m0 ∧ m0 ≤ 10 := by have := Hp.out; simpa [cmpt] using this
    have hc1' : ¬ m1 < 1 := by omega
    have hc2' : ¬ 6 < m1 := by omega
    go_wp2_with fail
    refine (cmpt_eq m0 true _ Hp.out).mono ?_
    rintro e w1 ⟨rfl, rfl⟩
    go_wp2_with fail
    refine (fail_any base s x.r wv hv x.hs m0 m1 _ HOK.out.h hm0.1 hm0.2 HS.out).mono ?_
    rintro e w2 ⟨hv2, rfl, hst2, hB2, hK2⟩
    have HS2 := Lib.hid hst2; have HB2 := Lib.hid (HB.out.trans hB2)
    have HKS2 := Lib.hid (HKS.out.trans hK2.ks)
    have HWT2 := Lib.hid (hK2.own HS.out.box HWT.out (by decide) (by decide))
    have hs2 := hK2.size
    clear hst2 hB2 hK2 HS HWT HB
    go_wp2_with fail
    refine (restart_any m0 _ _).mono ?_
    rintro e w3 ⟨rfl, hb3⟩
    have hs3 := hb3.size
    obtain ⟨md2, hmd⟩ : ∃ z, z = modeH x.hs m0 := ⟨_, rfl⟩
    rw [← hmd]
    rw [← hmd] at hr
    clear hmd
    have HS3 := Lib.hid (HS2.out.below hb3)
    have HWT3 := Lib.hid (own_below HWT2.out hb3 (Nat.le_refl _))
    have HB3 := Lib.hid (HB2.out.trans (hb3.mono (by omega)))
    have HKS3 := Lib.hid (HKS2.out.trans (KS.of_below hb3))
    clear hb3
    obtain ⟨w4, hw4⟩ : ∃ X, X = w3.alloc (.cells #[.int .i64 16, .int .i64 m0, .int .i64 md2, .int .i64 0, .int .i64 0, .int .i64 0, .int .i64 0, .int .i64 0, .int .i64 0, .int .i64 0, .int .i64 0, .int .i64 0, .int .i64 0, .slice none 0 0, .slice none 0 0] 58) := ⟨_, rfl⟩
    have hb4 : Below w3.heap.size w3 w4 := by rw [hw4]; exact (Below.refl _ _).alloc (Nat.le_refl _) _
    have hbx : w4.heap[w3.heap.size]? = some (.cells (encE (rstE m0 md2)).toArray 58 (0, 0)) := by rw [hw4]; exact heap_alloc_new w3 _
    have HS4 := Lib.hid (HS3.out.below hb4)
    have HWT4 := Lib.hid (own_below HWT3.out hb4 (Nat.le_refl _))
    have HB4 := Lib.hid (HB3.out.trans (hb4.mono (by omega)))
    have HKS4 := Lib.hid (HKS3.out.trans (KS.of_below hb4))
    have HE4 : Hid (SlX (List.range base) w4 (.slice (some ⟨w3.heap.size, 0, none⟩) 1 1) [rstE m0 md2]) := Lib.hid (Raw.of_block (m := 1) (ys := encE (rstE m0 md2)) hbx (by simp; omega) (fun u hu => encE_one [rstE m0 md2] u (by simpa using hu)) rfl (Nat.le_refl _) (by unfold maxLen; omega))
    have HET : Hid (EvT w4 (.slice (some ⟨w3.heap.size, 0, none⟩) 1 1)) := Lib.hid (fun q hq => by cases hq; exact ⟨_, _, hbx⟩)
    have HW4 := Lib.hid hw4
    clear hw4 hb4 hbx
    go_wp2
    go_ret2
    rw [hr.out, ← HW4.out]
    exact ⟨HB4.out, HKS4.out, _, wv, hv2, rfl, HE4.out, HET.out, HS4.out, HWT4.out⟩
  · have hr : Hid (failedV x ⟨ms, md, mk, mq, m0, m1, m2, m3⟩ = none) := Lib.hid (by
      unfold failedV
      rw [if_neg]
      simp only [Bool.and_eq_true, decide_eq_true_eq]
      exact fun h => hc h.2)
    go_wp2_with fail
    refine (cmpt_eq m0 true _ Hp.out).mono ?_
    rintro e w1 ⟨rfl, rfl⟩
    have HC := Lib.hid hc; clear hc
    go_wp2
    all_goals
      first
        | (go_ret2; rw [hr.out]; exact ⟨HB.out, HKS.out, rfl⟩)
        | (exfalso; have := HC.out; omega)
        | skip
end Go.Proofs.YthmnhpakgjnngaaGreatDoor
