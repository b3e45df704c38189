/- Revive: the closure add -/
import Derived.Test.YthmnhpakgjnngaaGreatDoorVg
namespace Go.Proofs.YthmnhpakgjnngaaGreatDoor
open Go.RowKit Go.Bs Go.Cl Go.Rw Go.Dt Go.Rv
/-- blocks that are no effects and not L stay -/
structure KE (L : Nat) (w w' : World) : Prop where
  size : w.heap.size ≤ w'.heap.size
  block : ∀ b, b < w.heap.size → b ≠ L → (∀ cs fr, w.heap[b]? ≠ some (.cells cs 58 fr)) → w'.heap[b]? = w.heap[b]?
theorem KE.of_below {s : Nat} {w w' : World} (h : Below w.heap.size w w') : KE s w w' := ⟨h.size, fun b hb _ _ => h.block b hb⟩
theorem KE.trans {s : Nat} {a b c : World} (h : KE s a b) (k : KE s b c) : KE s a c := ⟨Nat.le_trans h.size k.size, fun x hx hs ht => (k.block x (Nat.lt_of_lt_of_le hx h.size) hs (fun cs fr => by rw [h.block x hx hs ht]; exact ht cs fr)).trans (h.block x hx hs ht)⟩
theorem KE.cells {s : Nat} {w w' : World} (h : KE s w w') {b : Nat} {cs : Array Value} {t : TypeId} {fr : Nat × Nat} (hb : w.heap[b]? = some (.cells cs t fr)) (hs : b ≠ s) (ht : t ≠ 58) : w'.heap[b]? = some (.cells cs t fr) :=
  (h.block b (Array.getElem?_eq_some_iff.1 hb).1 hs (fun cs' fr' e => by rw [hb] at e; cases e; exact ht rfl)).trans hb
theorem KE.own {s base e k n : Nat} {w w' : World} {v : Value} {xs : List Value} {cs : Array Value} {fr : Nat × Nat} (h : KE s w w') (hs : w.heap[s]? = some (.cells cs 34 fr)) (ho : w.ownsRow base e k v n xs) (h1 : e ≠ 58) (h2 : e ≠ 34) : w'.ownsRow base e k v n xs :=
  own_same ho fun r hr => by
    obtain ⟨cur, hc⟩ := own_type ho hr
    refine h.block r (Array.getElem?_eq_some_iff.1 hc).1 (fun e' => ?_) (fun cs fr e' => ?_)
    · rw [e', hs] at hc; cases hc; exact h2 rfl
    · rw [hc] at e'; cases e'; exact h1 rfl
theorem KE.ks {s L : Nat} {w w' : World} {cs : Array Value} {fr : Nat × Nat} (h : KE L w w') (hL : w.heap[L]? = some (.cells cs 34 fr)) : KS s w w' := fun b _ _ _ hb => h.cells hb (fun e => by rw [e, hL] at hb; cases hb) (by decide)
theorem elEf : Rw.Elem Tryz.prog 34 58 15 152 (.agg (encE ⟨0, 0, 0, 0, 0, 0⟩).toArray) := ⟨Tryz.underlying34, by kernel_rfl, rfl, by decide⟩
set_option maxRecDepth 100000 in
set_option maxHeartbeats 1000000 in
theorem add_any (L base : Nat) (lv mv : Value) (es ns : List Ef) (w : World) (hL : w.heap[L]? = some (.cells #[lv] 34 (0, 0))) (hr : w.ownsRow base 58 15 lv es.length (es.flatMap encE)) (hlo : base ≤ L) (hm : SlE w mv ns) (hn : es.length + ns.length ≤ 1000) :
    Calls Tryz.prog 67 #[mv, .pointer (some ⟨L, 0, none⟩)] w fun e w' => ∃ lv', e = .returned (.tuple #[]) ∧ w'.heap[L]? = some (.cells #[lv'] 34 (0, 0)) ∧ w'.ownsRow base 58 15 lv' (es ++ ns).length ((es ++ ns).flatMap encE) ∧ Below base w w' ∧ KE L w w' := by
  obtain ⟨la, lc, rfl⟩ := own_slice hr
  obtain ⟨ma, mc, rfl⟩ := Raw.slice hm
  have hLl := (Array.getElem?_eq_some_iff.1 hL).1
  have c0 := box_at hL (j := 0) rfl
  have HL := Lib.hid hL; have HR := Lib.hid hr; have HM := Lib.hid hm
  clear hL hr hm
  go_enter Tryz.func67, Tryz.ntmps67
  go_wp2_with (at_builtin; refine wpList_append_raw elEf Tryz.underlying34 HR.out HM.out rfl _ _ rfl rfl rfl ?c3 ?c4 ?c5 ?_)
  case c3 => unfold maxLen; omega
  case c4 => omega
  case c5 => omega
  intro v' w1 hown hgrow
  obtain ⟨va, vc, rfl⟩ := own_slice hown
  have hkg : Keep (Value.slice la es.length lc).ownBlock.toList w w1 := Keep.of_grown hgrow (fun k hk => .inl (by rw [hk]; simp))
  have hne : ∀ q, (Value.slice la es.length lc).ownBlock = some q → q ≠ L := fun q hq e => by
    obtain ⟨cur, hc⟩ := own_type HR.out hq
    rw [e, HL.out] at hc; cases hc
  have hL1 := (hkg.block L hLl (fun hm => by simp at hm; exact hne L hm rfl)).trans HL.out
  have hb1 : Below base w w1 := hkg.below (by omega) (fun f hf => by simp at hf; exact (HR.out.lt f hf).1)
  have hk1 : KE L w w1 := ⟨hkg.size, fun b hb hbs ht => hkg.block b hb (fun hm => by
    simp at hm
    obtain ⟨cur, hc⟩ := own_type HR.out hm
    exact ht _ _ hc)⟩
  have hrow : w1.ownsRow base 58 15 (.slice va (es.length + ns.length) vc) (es ++ ns).length ((es ++ ns).flatMap encE) := by
    rw [List.length_append, List.flatMap_append]; exact hown
  have HL1 := Lib.hid hL1; have HB1 := Lib.hid hb1; have HK1 := Lib.hid hk1; have HR1 := Lib.hid hrow
  have hs1 := hkg.size
  have d0 := box_at hL1 (j := 0) rfl
  have f0 := box_free hL1 0
  clear hown hgrow hkg hne hL1 hb1 hk1 hrow c0
  go_wp2
  refine bodyPost_end (results_none rfl _ _ _) rfl ?_
  have hk := (Keep.refl [L] w1).setCell (p := ⟨L, 0, none⟩) (by simp) (.slice va (es.length + ns.length) vc)
  refine ⟨_, rfl, ?_, own_keep HR1.out hk (fun q hq hm => ?_), HB1.out.trans (hk.below (by omega) (fun f hf => by rw [List.mem_singleton.1 hf]; exact hlo)), HK1.out.trans ⟨hk.size, fun b hb hbs _ => hk.block b hb (fun hm => hbs (List.mem_singleton.1 hm))⟩⟩
  · simp only [World.setCell, Array.getElem?_modify]; simp [HL1.out]
  · rw [List.mem_singleton] at hm
    obtain ⟨cur, hc⟩ := own_type HR1.out hq
    rw [hm, HL1.out] at hc; cases hc
/-- the law's world within alarm: the state, the effects' slice, rows of numbers, the next heartbeats -/
structure Al (w : World) (base s L : Nat) (wv hv lv : Value) (x : Sv) (es : List Ef) (rows : List (Value × List Int)) (bs : List (Nat × Array Value)) : Prop where
  st : Stt w base s wv hv x
  lb : w.heap[L]? = some (.cells #[lv] 34 (0, 0))
  lr : w.ownsRow base 58 15 lv es.length (es.flatMap encE)
  ne : s ≠ L
  lo : base ≤ L
  rw' : ∀ p ∈ rows, w.ownsRow base 3 1 p.1 p.2.length (p.2.map (Value.int .i64))
  bx : ∀ b ∈ bs, w.heap[b.1]? = some (.cells b.2 38 (0, 0))
theorem Stt.below {w w' : World} {base s : Nat} {wv hv : Value} {x : Sv} (h : Stt w base s wv hv x) (hb : Below w.heap.size w w') : Stt w' base s wv hv x := ⟨h.st.below hb, own_below h.wt hb (Nat.le_refl _)⟩
theorem Al.below {w w' : World} {base s L : Nat} {wv hv lv : Value} {x : Sv} {es : List Ef} {rows : List (Value × List Int)} {bs : List (Nat × Array Value)} (h : Al w base s L wv hv lv x es rows bs) (hb : Below w.heap.size w w') : Al w' base s L wv hv lv x es rows bs :=
  ⟨h.st.below hb, (hb.block L (Array.getElem?_eq_some_iff.1 h.lb).1).trans h.lb, own_below h.lr hb (Nat.le_refl _), h.ne, h.lo, fun p hp => own_below (h.rw' p hp) hb (Nat.le_refl _), fun b hb' => (hb.block b.1 (Array.getElem?_eq_some_iff.1 (h.bx b hb')).1).trans (h.bx b hb')⟩
/-- behind fail -/
theorem Al.fail {w w' : World} {base s L : Nat} {wv hv hv' lv : Value} {x : Sv} {l' : List Hs} {es : List Ef} {rows : List (Value × List Int)} {bs : List (Nat × Array Value)} (h : Al w base s L wv hv lv x es rows bs) (hst : St w' base s x.r wv hv' l') (hk : KT s w w') : Al w' base s L wv hv' lv { x with hs := l' } es rows bs :=
  ⟨⟨hst, hk.own h.st.st.box h.st.wt (by decide) (by decide)⟩, hk.cells h.lb (Ne.symm h.ne) (by decide), hk.own h.st.st.box h.lr (by decide) (by decide), h.ne, h.lo, fun p hp => hk.own h.st.st.box (h.rw' p hp) (by decide) (by decide), fun b hb => hk.cells (h.bx b hb) (fun e => by
    have := h.bx b hb
    rw [e, h.st.st.box] at this; simp at this) (by decide)⟩
/-- behind add -/
theorem Al.add {w w' : World} {base s L : Nat} {wv hv lv lv' : Value} {x : Sv} {es es' : List Ef} {rows : List (Value × List Int)} {bs : List (Nat × Array Value)} (h : Al w base s L wv hv lv x es rows bs) (h1 : w'.heap[L]? = some (.cells #[lv'] 34 (0, 0))) (h2 : w'.ownsRow base 58 15 lv' es'.length (es'.flatMap encE)) (hk : KE L w w') : Al w' base s L wv hv lv' x es' rows bs :=
  ⟨⟨⟨hk.cells h.st.st.box h.ne (by decide), hk.own h.lb h.st.st.row (by decide) (by decide), h.st.st.ne, h.st.st.lo⟩, hk.own h.lb h.st.wt (by decide) (by decide)⟩, h1, h2, h.ne, h.lo, fun p hp => hk.own h.lb (h.rw' p hp) (by decide) (by decide), fun b hb => hk.cells (h.bx b hb) (fun e => by
    have := h.bx b hb
    rw [e, h.lb] at this; simp at this) (by decide)⟩
theorem effs_block {w : World} {g : Nat} {x : Ef} (h : w.heap[g]? = some (.cells (encE x).toArray 58 (0, 0))) : SlE w (.slice (some ⟨g, 0, none⟩) 1 1) [x] :=
  Raw.of_block (m := 1) (ys := encE x) (by simpa using h) (by simp) (fun u hu => encE_one [x] u (by simpa using hu)) rfl (Nat.le_refl _) (by unfold maxLen; omega)
end Go.Proofs.YthmnhpakgjnngaaGreatDoor
