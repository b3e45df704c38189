/- Revive: Decode -/
import Derived.Test.YthmnhpakgjnngaaGreatDoorXb
import Derived.Test.YthmnhpakgjnngaaGreatDoorVj
import Derived.Deep.CutRange
import Derived.WalkMore
namespace Go.Rv
open Go Go.RowKit Go.Bs Go.Cl Go.Rw Go.Dt Go.Wi
/-- a state that is being read: its block S, the reader at g, the histories' row, all in world w, from world u on -/
structure DecAt (T e ts : TypeId) (u w : World) (S g : Nat) (rv : Value) (b : List UInt8) (s : Nat × Bool) (z : Int) (lv ov : Value) (acc : List Hs) : Prop where
  o : RdO encH 3 T e w u.heap.size g rv b s ov acc
  bS : Bytes [S] w rv b
  kp : Keep [g, S] u w
  sx : w.heap[S]? = some (.cells #[.int .i64 z, lv, ov] ts (0, 0))
  hg : g < u.heap.size
  hS : S < u.heap.size
  ne : S ≠ g
variable {T e ts : TypeId} {u w w' : World} {S g X : Nat} {rv : Value} {b : List UInt8} {s : Nat × Bool} {z : Int} {lv ov : Value} {acc : List Hs} {cs : Array Value}
theorem DecAt.lt (h : DecAt T e ts u w S g rv b s z lv ov acc) : S < w.heap.size := (Array.getElem?_eq_some_iff.1 h.sx).1
theorem DecAt.low (h : DecAt T e ts u w S g rv b s z lv ov acc) : ∀ f ∈ ov.ownBlock.toList, u.heap.size ≤ f := fun f hf => (h.o.row.lt f (by simpa using hf)).1
theorem DecAt.read {s' : Nat × Bool} (h : DecAt T e ts u w S g rv b s z lv ov acc) (hr : RdR T w g rv b s' w') : DecAt T e ts u w' S g rv b s' z lv ov acc :=
  ⟨h.o.read hr, bytes_read h.o.rd h.bS hr, h.kp.trans hr.2 (fun f hf => .inl (by simp at hf ⊢; exact .inl hf)), (hr.2.block S h.lt (by simpa using h.ne)).trans h.sx, h.hg, h.hS, h.ne⟩
theorem DecAt.below (h : DecAt T e ts u w S g rv b s z lv ov acc) (hb : Below w.heap.size w w') : DecAt T e ts u w' S g rv b s z lv ov acc :=
  ⟨h.o.below hb, Raw.below h.bS hb, h.kp.trans (Keep.of_below' (F := []) hb) (fun f hf => by cases hf), (hb.block S h.lt).trans h.sx, h.hg, h.hS, h.ne⟩
/-- beside a history's own block X -/
structure DecX (T e ts : TypeId) (u w : World) (S g X : Nat) (rv : Value) (b : List UInt8) (s : Nat × Bool) (z : Int) (lv ov : Value) (acc : List Hs) (cs : Array Value) : Prop where
  d : DecAt T e ts u w S g rv b s z lv ov acc
  bX : Bytes [X] w rv b
  rX : ∀ f ∈ ov.ownBlock.toList, f ≠ X
  uX : u.heap.size ≤ X
  cX : w.heap[X]? = some (.cells cs e (0, 0))
theorem DecX.start (h : DecAt T e ts u w S g rv b s z lv ov acc) (cs : Array Value) : DecX T e ts u (w.alloc (.cells cs e)) S g w.heap.size rv b s z lv ov acc cs := by
  have hb : Below w.heap.size w (w.alloc (.cells cs e)) := (Below.refl _ w).alloc (Nat.le_refl _) _
  exact ⟨h.below hb, Raw.below (h.o.apart (Nat.le_refl _)) hb, h.o.rows (Nat.le_refl _), h.kp.size, heap_alloc_new w _⟩
theorem DecX.neg (h : DecX T e ts u w S g X rv b s z lv ov acc cs) : X ≠ g := by have := h.uX; have := h.d.hg; omega
theorem DecX.neS (h : DecX T e ts u w S g X rv b s z lv ov acc cs) : X ≠ S := by have := h.uX; have := h.d.hS; omega
theorem DecX.ltX (h : DecX T e ts u w S g X rv b s z lv ov acc cs) : X < w.heap.size := (Array.getElem?_eq_some_iff.1 h.cX).1
theorem DecX.read {s' : Nat × Bool} (h : DecX T e ts u w S g X rv b s z lv ov acc cs) (hr : RdR T w g rv b s' w') : DecX T e ts u w' S g X rv b s' z lv ov acc cs :=
  ⟨h.d.read hr, bytes_read h.d.o.rd h.bX hr, h.rX, h.uX, (hr.2.block X h.ltX (by simpa using h.neg)).trans h.cX⟩
theorem DecX.set (h : DecX T e ts u w S g X rv b s z lv ov acc cs) (j : Nat) (v : Value) : DecX T e ts u (w.setCell ⟨X, j, none⟩ v) S g X rv b s z lv ov acc (cs.setIfInBounds j v) := by
  have hk : Keep [X] w (w.setCell ⟨X, j, none⟩ v) := (Keep.refl [X] w).setCell (by simp) _
  refine ⟨⟨h.d.o.set h.bX h.rX h.neg hk, Raw.keep (Raw.both h.d.bS h.bX) hk (fun f hf => .inl (List.mem_append_right _ hf)) (fun f hf => .inl (List.mem_append_left _ hf)), h.d.kp.trans hk (fun f hf => .inr (by rw [List.mem_singleton.1 hf]; exact h.uX)), (hk.block S h.d.lt (by simpa using h.neS.symm)).trans h.d.sx, h.d.hg, h.d.hS, h.d.ne⟩, Raw.keep h.bX hk (fun f hf => .inl hf) (fun f hf => .inl hf), h.rX, h.uX, ?_⟩
  simp only [World.setCell, Array.getElem?_modify]
  simp [h.cX]
theorem DecX.below (h : DecX T e ts u w S g X rv b s z lv ov acc cs) (hb : Below w.heap.size w w') : DecX T e ts u w' S g X rv b s z lv ov acc cs :=
  ⟨h.d.below hb, Raw.below h.bX hb, h.rX, h.uX, (hb.block X h.ltX).trans h.cX⟩
theorem heap_set2 {w : World} {g : Nat} {x y a : Value} {t : TypeId} (h : w.heap[g]? = some (.cells #[x, y, a] t (0, 0))) (c : Value) : (w.setCell ⟨g, 2, none⟩ c).heap[g]? = some (.cells #[x, y, c] t (0, 0)) := by
  simp only [World.setCell, Array.getElem?_modify]
  simp [h]
theorem DecAt.push {ov' : Value} {x : Hs} (h : DecAt T e ts u w S g rv b s z lv ov acc) (hrow : w'.ownsRow u.heap.size e 3 ov' (acc.length + 1) (acc.flatMap encH ++ encH x)) (hk : Keep ov.ownBlock.toList w w') (hn : ∀ f ∈ ov'.ownBlock.toList, f ∈ ov.ownBlock.toList ∨ w.heap.size ≤ f) :
    DecAt T e ts u (w'.setCell ⟨S, 2, none⟩ ov') S g rv b s z lv ov' (acc ++ [x]) := by
  have ho := h.o.push (x := x) hrow hk hn
  have hlow := h.low
  have hnS : ∀ f ∈ ov'.ownBlock.toList, f ≠ S := fun f hf => by
    rcases hn f hf with h1 | h1
    · have := hlow f h1; have := h.hS; omega
    · have := h.lt; omega
  have hbS : Bytes [S] w' rv b := Raw.keep (Raw.both h.bS h.o.by') hk (fun f hf => .inl (List.mem_append_right _ hf)) (fun f hf => .inl (List.mem_append_left _ hf))
  have hks : Keep [S] w' (w'.setCell ⟨S, 2, none⟩ ov') := (Keep.refl [S] w').setCell (by simp) _
  have hsx : w'.heap[S]? = some (.cells #[.int .i64 z, lv, ov] ts (0, 0)) := (hk.block S h.lt (fun hm => by have := hlow S hm; have := h.hS; omega)).trans h.sx
  exact ⟨ho.set hbS hnS h.ne hks, Raw.keep hbS hks (fun f hf => .inl hf) (fun f hf => .inl hf), (h.kp.trans hk (fun f hf => .inr (hlow f hf))).trans hks (fun f hf => .inl (by simp at hf ⊢; exact .inr hf)), heap_set2 hsx _, h.hg, h.hS, h.ne⟩
theorem boxH {w : World} (g : Nat) (x : Hs) {t : TypeId} (h : w.heap[g]? = some (.cells (encH x).toArray t (0, 0))) : Raw [] 3 w (.slice (some ⟨g, 0, none⟩) 1 1) 1 (encH x) :=
  Raw.of_block (ys := encH x) h (by intro h; cases h) (fun u hu => encH_one [x] u (by simpa using hu)) rfl (Nat.le_refl _) (by unfold maxLen; omega)
end Go.Rv
namespace Go.Proofs.YthmnhpakgjnngaaGreatDoor
open Go.RowKit Go.Bs Go.Cl Go.Rw Go.Dt Go.Rv Go.Wi
/-- what Decode returns -/
def RetD (r : Option Sv) (w : World) (e : Ending) (w' : World) : Prop := Below w.heap.size w w' ∧ match r with
  | none => e = .returned (.tuple #[.agg #[.int .i64 0, .slice none 0 0, .slice none 0 0], .int .i64 4])
  | some x => ∃ sv, e = .returned (.tuple #[sv, .int .i64 0]) ∧ SvN (List.range w.heap.size) w' sv x
set_option maxRecDepth 100000 in
set_option maxHeartbeats 8000000 in
theorem decode_any (bv : Value) (b : List UInt8) (w : World) (hB : Bytes [] w bv b) (hbl : b.length ≤ 1000000) :
    Calls Tryz.prog 8 #[bv] w (RetD (decV b 10) w) := by
  obtain ⟨ba, bc, rfl⟩ := Raw.slice hB
  obtain ⟨r1, hr1⟩ : ∃ r, rI b (0, false) = r := ⟨_, rfl⟩
  obtain ⟨z, s1⟩ := r1
  obtain ⟨r2, hr2⟩ : ∃ r, rL b 10 s1 = r := ⟨_, rfl⟩
  have hl10 := rL_len b 10 (by omega) s1
  rw [hr2] at hl10
  obtain ⟨l, s2⟩ := r2
  obtain ⟨r3, hr3⟩ : ∃ r, rB b 0 10 s2 = r := ⟨_, rfl⟩
  have hbd := rB_bound b (lo := 0) (hi := 10) (by omega) (by omega) s2
  rw [hr3] at hbd
  obtain ⟨nI, s3⟩ := r3
  simp only at hl10 hbd
  obtain ⟨n, rfl⟩ : ∃ n : Nat, nI = n := ⟨nI.toNat, by omega⟩
  have hn10 : n ≤ 10 := by omega
  have hdec : ∀ hs s4, rHs b n s3 = (hs, s4) → decV b 10 = if decide (rEnd b s4 = 0) && validV ⟨z, l, hs⟩ then some ⟨z, l, hs⟩ else none := fun hs s4 h => by
    have hrd : rdV b 10 = (⟨z, l, hs⟩, s4) := by
      unfold rdV
      rw [hr1]
      simp only
      rw [hr2]
      simp only
      rw [hr3]
      simp only [Int.toNat_natCast]
      rw [h]
    unfold decV
    rw [hrd]
  have Hdec := Lib.hid hdec; have Hr1 := Lib.hid hr1; have Hr2 := Lib.hid hr2; have Hr3 := Lib.hid hr3
  clear hdec hr1 hr2 hr3 hbd
  obtain ⟨R, hR⟩ : ∃ R, R = w.heap.size := ⟨_, rfl⟩
  obtain ⟨W, hW⟩ : ∃ W, W = w.alloc (.cells #[.int .i64 0, .slice none 0 0, .slice none 0 0] 41) := ⟨_, rfl⟩
  have hb : Below w.heap.size w W := by rw [hW]; exact (Below.refl w.heap.size w).alloc (Nat.le_refl _) _
  have h3 : W.heap[R]? = some (.cells #[.int .i64 0, .slice none 0 0, .slice none 0 0] 41 (0, 0)) := by rw [hW, hR]; exact heap_alloc_new w _
  have hws : W.heap.size = R + 1 := by rw [hW, hR]; simp
  have HB := Lib.hid (Raw.below hB hb)
  have Hb := Lib.hid hb
  have Hx := Lib.hid h3
  have HRe := Lib.hid hR; have HWe := Lib.hid hW; have Hws := Lib.hid hws
  clear hB h3 hb hR hW hws
  go_enter Tryz.func8, Tryz.ntmps8
  go_wp2_with fail
  rw [← HWe.out, ← HRe.out]
  refine (wread_any _ b _ HB.out hbl).mono ?_
  rintro e w1 ⟨g, rv, rfl, hrd, hg, hb1⟩
  have hgl := hrd.lt
  have hRg : R < g := by have := Hws.out; omega
  have Hrd := Lib.hid hrd
  have hRl : R < W.heap.size := by have := Hws.out; omega
  have Hx1 := Lib.hid ((hb1.block _ hRl).trans Hx.out)
  have Hb1 := Lib.hid (Hb.out.trans (hb1.mono Hb.out.size))
  clear hrd hb1 Hb Hx HB
  obtain ⟨S, hS⟩ : ∃ S, S = w1.heap.size := ⟨_, rfl⟩
  obtain ⟨w2, hw2⟩ : ∃ W, W = w1.alloc (.cells #[.int .i64 0, .slice none 0 0, .slice none 0 0] 41) := ⟨_, rfl⟩
  have hb2 : Below w1.heap.size w1 w2 := by rw [hw2]; exact (Below.refl _ w1).alloc (Nat.le_refl _) _
  have hx2 : w2.heap[S]? = some (.cells #[.int .i64 0, .slice none 0 0, .slice none 0 0] 41 (0, 0)) := by rw [hw2, hS]; exact heap_alloc_new w1 _
  have hrd2 := Hrd.out.below hb2
  have hbs2 : Bytes [S] w2 rv b := Raw.below (Raw.fresh (Raw.to_nil Hrd.out.hb) (fun f hf => by rw [List.mem_singleton.1 hf, hS]; exact .inr (Nat.le_refl _))) hb2
  have hSg : S ≠ g := by omega
  have hRS : R < S := by omega
  have HRx2 := Lib.hid ((hb2.block R (by omega)).trans Hx1.out)
  have Hb2 := Lib.hid (Hb1.out.trans (hb2.mono Hb1.out.size))
  have HSe := Lib.hid hS; have Hw2 := Lib.hid hw2; have Hx2 := Lib.hid hx2; have Hrd2 := Lib.hid hrd2; have Hbs2 := Lib.hid hbs2
  clear hb2 hx2 hrd2 hbs2 hS hw2 Hrd Hx1 Hb1 hgl hg
  go_upto_region 3 with (fail)
  rw [← Hw2.out, ← HSe.out]
  clear HSe Hw2 HWe Hws
  go_wp2_with fail
  refine (wInt_any g rv b 0 false _ Hrd2.out hbl).mono ?_
  rw [Hr1.out]
  rintro e w3 ⟨rfl, hR3⟩
  have hx3 := (hR3.2.block S (Array.getElem?_eq_some_iff.1 Hx2.out).1 (by simpa using hSg)).trans Hx2.out
  have hbs3 := bytes_read (s := (0, false)) Hrd2.out Hbs2.out hR3
  have hrx3 := (hR3.2.block R (by have := (Array.getElem?_eq_some_iff.1 HRx2.out).1; omega) (by simp; omega)).trans HRx2.out
  have hb3 := Hb2.out.trans (hR3.2.below (B := w.heap.size) Hb2.out.size (fun f hf => by rw [List.mem_singleton.1 hf]; have := HRe.out; omega))
  have f3 := box_free hx3 0
  have c3 := box_at hx3 (j := 0) rfl
  clear Hrd2 Hbs2 Hx2 HRx2 Hb2
  -- the store of the round
  obtain ⟨w4, hw4⟩ : ∃ W, W = w3.setCell ⟨S, 0, none⟩ (.int .i64 z) := ⟨_, rfl⟩
  have hk4 : Keep [S] w3 w4 := by rw [hw4]; exact (Keep.refl [S] w3).setCell (by simp) _
  have hx4 : w4.heap[S]? = some (.cells #[.int .i64 z, .slice none 0 0, .slice none 0 0] 41 (0, 0)) := by
    rw [hw4]; simp only [World.setCell, Array.getElem?_modify]; simp [hx3]
  have hrd4 := hR3.1.keep hk4 (by simpa using hSg.symm) hbs3
  have hbs4 : Bytes [S] w4 rv b := Raw.keep hbs3 hk4 (fun f hf => .inl hf) (fun f hf => .inl hf)
  have hrx4 := (hk4.block R (by have := (Array.getElem?_eq_some_iff.1 hrx3).1; omega) (by simp; omega)).trans hrx3
  have hb4 := hb3.trans (hk4.below (B := w.heap.size) hb3.size (fun f hf => by rw [List.mem_singleton.1 hf]; have := HRe.out; omega))
  have Hw4 := Lib.hid hw4; have Hx4 := Lib.hid hx4; have Hrd4 := Lib.hid hrd4; have Hbs4 := Lib.hid hbs4; have HRx4 := Lib.hid hrx4; have Hb4 := Lib.hid hb4
  clear hw4 hk4 hx4 hrd4 hbs4 hrx4 hb4 hb3 hrx3 hbs3 hx3 hR3
  go_upto_region 4 with (fail)
  rw [← Hw4.out]
  clear Hw4 f3 c3
  go_wp2_with fail
  refine (wInts_any g rv b s1.1 s1.2 10 (by omega) _ Hrd4.out hbl).mono ?_
  rw [show ((s1.1, s1.2) : Nat × Bool) = s1 from rfl, Hr2.out]
  rintro e w5 ⟨lv, rfl, hrow5, hR5⟩
  have hs5 := hR5.2.size
  have hSl4 := (Array.getElem?_eq_some_iff.1 Hx4.out).1
  have hx5 := (hR5.2.block S hSl4 (by simpa using hSg)).trans Hx4.out
  have hbs5 := bytes_read (s := s1) Hrd4.out Hbs4.out hR5
  have hrx5 := (hR5.2.block R (by omega) (by simp; omega)).trans HRx4.out
  have hb5 := Hb4.out.trans (hR5.2.below (B := w.heap.size) Hb4.out.size (fun f hf => by rw [List.mem_singleton.1 hf]; have := HRe.out; omega))
  obtain ⟨la, lc, rfl⟩ := own_slice hrow5
  have hlv : ∀ r, (Value.slice la l.length lc).ownBlock = some r → w4.heap.size ≤ r := fun r hr => (hrow5.lt r hr).1
  have f5 := box_free hx5 1
  have c5 := box_at hx5 (j := 1) rfl
  obtain ⟨w6, hw6⟩ : ∃ W, W = w5.setCell ⟨S, 1, none⟩ (.slice la l.length lc) := ⟨_, rfl⟩
  have hk6 : Keep [S] w5 w6 := by rw [hw6]; exact (Keep.refl [S] w5).setCell (by simp) _
  have hx6 : w6.heap[S]? = some (.cells #[.int .i64 z, .slice la l.length lc, .slice none 0 0] 41 (0, 0)) := by
    rw [hw6]; simp only [World.setCell, Array.getElem?_modify]; simp [hx5]
  have hrd6 := hR5.1.keep hk6 (by simpa using hSg.symm) hbs5
  have hbs6 : Bytes [S] w6 rv b := Raw.keep hbs5 hk6 (fun f hf => .inl hf) (fun f hf => .inl hf)
  have hrx6 := (hk6.block R (by omega) (by simp; omega)).trans hrx5
  have hb6 := hb5.trans (hk6.below (B := w.heap.size) hb5.size (fun f hf => by rw [List.mem_singleton.1 hf]; have := HRe.out; omega))
  have hrow6 : w6.ownsRow w.heap.size 3 1 (.slice la l.length lc) l.length (l.flatMap encT) := own_base (own_keep hrow5 hk6 (fun r hr hm => by have := hlv r hr; rw [List.mem_singleton] at hm; omega)) Hb4.out.size
  have Hlv : Hid (∀ r, (Value.slice la l.length lc).ownBlock = some r → r ≠ g ∧ r ≠ S) := Lib.hid (fun r hr => by have := hlv r hr; have := Hrd4.out.lt; omega)
  have Hw6 := Lib.hid hw6; have Hx6 := Lib.hid hx6; have Hrd6 := Lib.hid hrd6; have Hbs6 := Lib.hid hbs6; have HRx6 := Lib.hid hrx6; have Hb6 := Lib.hid hb6; have Hrow6 := Lib.hid hrow6
  clear hw6 hk6 hx6 hrd6 hbs6 hrx6 hb6 hb5 hrx5 hbs5 hx5 hR5 hrow5 hrow6 hlv Hx4 Hrd4 Hbs4 HRx4 Hb4 hs5 hSl4
  go_upto_region 5 with (fail)
  rw [← Hw6.out]
  clear Hw6 f5 c5
  go_wp2_with fail
  refine (wBounded_any g rv b s2.1 s2.2 0 10 _ Hrd6.out hbl).mono ?_
  rw [show ((s2.1, s2.2) : Nat × Bool) = s2 from rfl, Hr3.out]
  rintro e u ⟨rfl, hR7⟩
  have hSl6 := (Array.getElem?_eq_some_iff.1 Hx6.out).1
  have hs7 := hR7.2.size
  have hd7 : DecAt 96 68 41 u u S g rv b s3 z (.slice la l.length lc) (.slice none 0 0) [] :=
    ⟨RdO.start hR7.1, bytes_read (s := s2) Hrd6.out Hbs6.out hR7, Keep.refl _ _, (hR7.2.block S hSl6 (by simpa using hSg)).trans Hx6.out, hR7.1.lt, by omega, hSg⟩
  have HD7 := Lib.hid hd7
  have HRx7 := Lib.hid ((hR7.2.block R (by omega) (by simp; omega)).trans HRx6.out)
  have Hb7 := Lib.hid (Hb6.out.trans (hR7.2.below (B := w.heap.size) Hb6.out.size (fun f hf => by rw [List.mem_singleton.1 hf]; have := HRe.out; omega)))
  have Hrow7 := Lib.hid (own_keep Hrow6.out hR7.2 (fun r hr hm => (Hlv.out r hr).1 (List.mem_singleton.1 hm)))
  have hRu : R < u.heap.size := by omega
  clear hd7 hR7 Hx6 Hrd6 Hbs6 HRx6 Hb6 Hrow6 hSl6 hs7
  have HlowB : Hid (∀ wr, Keep [g, S] u wr → Below w.heap.size w wr) := Lib.hid (fun wr hk => Hb7.out.trans (hk.below Hb7.out.size (fun f hf => by have := HRe.out; simp at hf; omega)))
  simp only
  go_wp2
  go_loopw [19] (fun i wr => ∃ (k : Nat) (acc : List Hs) (s : Nat × Bool) (ov : Value), k ≤ n ∧ i = .int .i64 k ∧ rHs b k s3 = (acc, s) ∧ DecAt 96 68 41 u wr S g rv b s z (.slice la l.length lc) ov acc) (fun i _ => n - (intOf i).toNat)
  case atStart => exact ⟨0, [], s3, _, Nat.zero_le _, rfl, rfl, HD7.out⟩
  case round =>
    clear HD7
    obtain ⟨k, acc, s, ov, hk, rfl, hacc, hD⟩ := hrel
    obtain ⟨oa, oc, rfl⟩ := own_slice hD.o.row
    have hal : acc.length = k := by have := rHs_len b k s3; rw [hacc] at this; exact this
    have HD := Lib.hid hD; have Hacc := Lib.hid hacc; have Hal := Lib.hid hal
    clear hD hacc hal
    by_cases hlt : k < n
    · have hlt' : (k : Int) < n := by omega
      obtain ⟨q1, hq1⟩ : ∃ r, rI b s = r := ⟨_, rfl⟩
      obtain ⟨x1, sa⟩ := q1
      obtain ⟨q2, hq2⟩ : ∃ r, rI b sa = r := ⟨_, rfl⟩
      obtain ⟨x2, sb⟩ := q2
      obtain ⟨q3, hq3⟩ : ∃ r, rI b sb = r := ⟨_, rfl⟩
      obtain ⟨x3, sc⟩ := q3
      have Hstep : Hid (rHs b (k + 1) s3 = (acc ++ [⟨x1, x2, x3⟩], sc)) := Lib.hid (by
        rw [rHs_step, Hacc.out]
        unfold rH
        simp only
        rw [hq1]
        simp only
        rw [hq2]
        simp only
        rw [hq3])
      have Hq1 := Lib.hid hq1; have Hq2 := Lib.hid hq2; have Hq3 := Lib.hid hq3
      clear hq1 hq2 hq3
      go_wp2_with fail
      refine (wInt_any g rv b s.1 s.2 _ HD.out.o.rd hbl).mono ?_
      rw [show ((s.1, s.2) : Nat × Bool) = s from rfl, Hq1.out]
      rintro e wa ⟨rfl, hRa⟩
      have HDa := Lib.hid (DecX.start (HD.out.read hRa) #[.int .i64 x1, .int .i64 0, .int .i64 0])
      obtain ⟨X, hX⟩ : ∃ X, X = wa.heap.size := ⟨_, rfl⟩
      obtain ⟨wb, hwb⟩ : ∃ W, W = wa.alloc (.cells #[.int .i64 x1, .int .i64 0, .int .i64 0] 68) := ⟨_, rfl⟩
      rw [← hX, ← hwb] at HDa
      have HX := Lib.hid hX; have Hwb := Lib.hid hwb
      clear hRa HD hX hwb
      simp only
      go_upto_region 8 with (fail)
      rw [← Hwb.out, ← HX.out]
      clear Hwb HX
      go_wp2_with fail
      refine (wInt_any g rv b sa.1 sa.2 _ HDa.out.d.o.rd hbl).mono ?_
      rw [show ((sa.1, sa.2) : Nat × Bool) = sa from rfl, Hq2.out]
      rintro e wc ⟨rfl, hRc⟩
      have HDc := Lib.hid (HDa.out.read hRc)
      have f1 := box_free HDc.out.cX 1
      have c1 := box_at HDc.out.cX (j := 1) rfl
      have HDd := Lib.hid (HDc.out.set 1 (.int .i64 x2))
      obtain ⟨wd, hwd⟩ : ∃ W, W = wc.setCell ⟨X, 1, none⟩ (.int .i64 x2) := ⟨_, rfl⟩
      rw [← hwd] at HDd
      have Hwd := Lib.hid hwd
      clear hRc HDa HDc hwd
      simp only
      go_upto_region 9 with (fail)
      rw [← Hwd.out]
      clear Hwd f1 c1
      go_wp2_with fail
      refine (wInt_any g rv b sb.1 sb.2 _ HDd.out.d.o.rd hbl).mono ?_
      rw [show ((sb.1, sb.2) : Nat × Bool) = sb from rfl, Hq3.out]
      rintro e we ⟨rfl, hRe⟩
      have HDe := Lib.hid (HDd.out.read hRe)
      have f2 := box_free HDe.out.cX 2
      have c2 := box_at HDe.out.cX (j := 2) rfl
      have hdf := HDe.out.set 2 (.int .i64 x3)
      obtain ⟨wf, hwf⟩ : ∃ W, W = we.setCell ⟨X, 2, none⟩ (.int .i64 x3) := ⟨_, rfl⟩
      rw [← hwf] at hdf
      have HDf : Hid (DecX 96 68 41 u wf S g X rv b sc z (.slice la l.length lc) (.slice oa acc.length oc) acc #[.int .i64 x1, .int .i64 x2, .int .i64 x3]) := Lib.hid hdf
      have Hwf := Lib.hid hwf
      clear hRe HDd HDe hwf hdf
      simp only
      go_upto_region 10 with (fail)
      rw [← Hwf.out]
      clear Hwf f2 c2
      have e2 := box_at HDf.out.d.sx (j := 2) rfl
      have g0 := box_at HDf.out.cX (j := 0) rfl
      have g1 := box_at HDf.out.cX (j := 1) rfl
      have g2 := box_at HDf.out.cX (j := 2) rfl
      have hal2 := (Below.refl wf.heap.size wf).alloc (Nat.le_refl _) (.cells #[.int .i64 x1, .int .i64 x2, .int .i64 x3] 68)
      have HDg := Lib.hid (HDf.out.d.below hal2)
      have HXr := Lib.hid (boxH wf.heap.size ⟨x1, x2, x3⟩ (heap_alloc_new wf (.cells #[.int .i64 x1, .int .i64 x2, .int .i64 x3] 68)))
      have hbg := HlowB.out _ HDg.out.kp
      have hug := HDg.out.kp.size
      clear hal2
      go_wp2_with (at_builtin; refine wpList_appF elH Tryz.underlying39 HDg.out.o.row HXr.out hbg rfl _ _ rfl rfl rfl ?c3 ?cB ?c5 ?_)
      case c3 => have := Hal.out; omega
      case cB => exact Hb7.out.size
      case c5 => exact hug
      intro v8 w8 hown8 hbel8 hk8 hn8
      have hd8 := HDg.out.push (x := ⟨x1, x2, x3⟩) hown8 hk8 (by simpa using hn8)
      have h8x : w8.heap[S]? = some (.cells #[.int .i64 z, .slice la l.length lc, .slice oa acc.length oc] 41 (0, 0)) := (hk8.block S HDg.out.lt (fun hm => by have := HDg.out.low S hm; have := HDg.out.hS; omega)).trans HDg.out.sx
      have f8 := box_free h8x 2
      have c8 := box_at h8x (j := 2) rfl
      have HD8 := Lib.hid hd8
      obtain ⟨a8, d8, rfl⟩ := own_slice hown8
      clear hown8 hk8 hn8 hd8 h8x hbel8 HDf HDg HXr hbg hug e2 g0 g1 g2
      go_wp2
      go_roundw
      case rel => exact ⟨k + 1, _, sc, _, hlt, by go_num, Hstep.out, HD8.out⟩
      case measure => simp [intOf]; omega
    · obtain rfl : k = n := by omega
      have hfin := Hdec.out _ _ Hacc.out
      have hacc9 : acc.length ≤ 1000 := by have := Hal.out; omega
      have hl9 : l.length ≤ 1000 := by omega
      have Hfin := Lib.hid hfin
      have hkp := HD.out.kp
      have hbw := HlowB.out _ hkp
      have Hbw := Lib.hid hbw
      have HRw := Lib.hid ((hkp.block R hRu (by simp; omega)).trans HRx7.out)
      have Hrow8 := Lib.hid (own_keep Hrow7.out hkp (fun r hr hm => by have := Hlv.out r hr; simp at hm; omega))
      have hru2 := hkp.size
      clear hfin hkp hbw
      go_wp2_with fail
      refine (wend_any g rv b s.1 s.2 _ HD.out.o.rd hbl).mono ?_
      rintro e y ⟨rfl, hby⟩
      rw [show ((s.1, s.2) : Nat × Bool) = s from rfl]
      have HDy := Lib.hid (HD.out.below hby)
      have HRy := Lib.hid ((hby.block R (by omega)).trans HRw.out)
      have Hby := Lib.hid (Hbw.out.trans (hby.mono Hbw.out.size))
      have Hrowy := Lib.hid (own_below Hrow8.out hby (Nat.le_refl _))
      clear hby HD HRw Hbw Hrow8
      have e0 := box_at HDy.out.sx (j := 0) rfl
      have e1 := box_at HDy.out.sx (j := 1) rfl
      have e2 := box_at HDy.out.sx (j := 2) rfl
      have r0 := box_at HRy.out (j := 0) rfl
      have r1 := box_at HRy.out (j := 1) rfl
      have r2 := box_at HRy.out (j := 2) rfl
      have k0 := box_free HRy.out 0
      have k1 := box_free HRy.out 1
      have k2 := box_free HRy.out 2
      have HI : Hid (Ints [] y (.slice la l.length lc) l) := Lib.hid (Ints.of_own (by have := Hrowy.out; rw [encT_map] at this; exact this))
      have HH := Lib.hid (SlH.of_own HDy.out.o.row)
      rcases rEnd_cases b s with hre | hre
      · rw [hre] at Hfin ⊢
        obtain ⟨VB, hVB⟩ : ∃ V, validV ⟨z, l, acc⟩ = V := ⟨_, rfl⟩
        go_wp2_with fail
        refine (valid_eq ⟨z, l, acc⟩ _ _ VB _ hl9 hacc9 HI.out HH.out hVB).mono ?_
        rintro e y2 ⟨rfl, hb2⟩
        rw [hVB] at Hfin
        have hD2 := HDy.out.below hb2
        have hR2 := (hb2.block R (by have := (Array.getElem?_eq_some_iff.1 HRy.out).1; omega)).trans HRy.out
        have HB2 := Lib.hid (Hby.out.trans (hb2.mono Hby.out.size))
        have Hrow2 := Lib.hid (own_below Hrowy.out hb2 (Nat.le_refl _))
        have e0 := box_at hD2.sx (j := 0) rfl
        have e1 := box_at hD2.sx (j := 1) rfl
        have e2 := box_at hD2.sx (j := 2) rfl
        have r0 := box_at hR2 (j := 0) rfl
        have r1 := box_at hR2 (j := 1) rfl
        have r2 := box_at hR2 (j := 2) rfl
        have k0 := box_free hR2 0
        have k1 := box_free hR2 1
        have k2 := box_free hR2 2
        have HD2 := Lib.hid hD2; have HR2 := Lib.hid hR2; have HVB := Lib.hid hVB
        clear hb2 hD2 hR2 hVB HDy HRy Hby Hrowy HI HH
        have hbel : ∀ a b' c', Below w.heap.size w (((y2.setCell ⟨R, 0, none⟩ a).setCell ⟨R, 1, none⟩ b').setCell ⟨R, 2, none⟩ c') := fun a b' c' => HB2.out.trans (Keep.below (F := [R]) ((((Keep.refl [R] y2).setCell (by simp) _).setCell (by simp) _).setCell (by simp) _) HB2.out.size (fun f hf => by rw [List.mem_singleton.1 hf]; have := HRe.out; omega))
        have HBL := Lib.hid hbel; clear hbel
        cases VB
        · have Hd : Hid (decV b 10 = none) := Lib.hid (by rw [Hfin.out]; rfl)
          go_wp2
          refine bodyPost_ret (results_ct rfl _ _ _ _ _ _ _ rfl (heap_set3 HR2.out _ _ _) Tryz.underlying41 rfl (by kernel_rfl)) rfl ?_
          rw [Hd.out]
          exact ⟨HBL.out _ _ _, rfl⟩
        · have Hd : Hid (decV b 10 = some ⟨z, l, acc⟩) := Lib.hid (by rw [Hfin.out]; rfl)
          have hkR : Keep [R] y2 (((y2.setCell ⟨R, 0, none⟩ (.int .i64 z)).setCell ⟨R, 1, none⟩ (.slice la l.length lc)).setCell ⟨R, 2, none⟩ (.slice oa acc.length oc)) := (((Keep.refl [R] y2).setCell (by simp) _).setCell (by simp) _).setCell (by simp) _
          have ho1 := own_keep Hrow2.out hkR (fun r hr hm => by
            rw [List.mem_singleton] at hm
            obtain ⟨cur, hc⟩ := RowF.type (.inl Hrow2.out) (r := r) hr
            rw [hm, HR2.out] at hc; cases hc)
          have ho2 := own_keep HD2.out.o.row hkR (fun r hr hm => by
            have := (HD2.out.o.row.lt r hr).1
            rw [List.mem_singleton] at hm; omega)
          have HO1 := Lib.hid ho1; have HO2 := Lib.hid ho2
          clear hkR ho1 ho2
          go_wp2
          refine bodyPost_ret (results_ct rfl _ _ _ _ _ _ _ rfl (heap_set3 HR2.out _ _ _) Tryz.underlying41 rfl (by kernel_rfl)) rfl ?_
          rw [Hd.out]
          refine ⟨HBL.out _ _ _, _, rfl, _, _, rfl, ?_, ?_⟩
          · have := HO1.out
            rw [encT_map] at this
            exact Raw.of_own this (ivs_one _) (fun f hf => List.mem_range.1 hf)
          · exact Raw.of_own (own_base HO2.out Hb7.out.size) (encH_one _) (fun f hf => List.mem_range.1 hf)
      · rw [hre] at Hfin ⊢
        have Hd : Hid (decV b 10 = none) := Lib.hid (by rw [Hfin.out]; rfl)
        have hbel : ∀ a b' c', Below w.heap.size w (((y.setCell ⟨R, 0, none⟩ a).setCell ⟨R, 1, none⟩ b').setCell ⟨R, 2, none⟩ c') := fun a b' c' => Hby.out.trans (Keep.below (F := [R]) ((((Keep.refl [R] y).setCell (by simp) _).setCell (by simp) _).setCell (by simp) _) Hby.out.size (fun f hf => by rw [List.mem_singleton.1 hf]; have := HRe.out; omega))
        have HBL := Lib.hid hbel; clear hbel
        go_wp2
        refine bodyPost_ret (results_ct rfl _ _ _ _ _ _ _ rfl (heap_set3 HRy.out _ _ _) Tryz.underlying41 rfl (by kernel_rfl)) rfl ?_
        rw [Hd.out]
        exact ⟨HBL.out _ _ _, rfl⟩
end Go.Proofs.YthmnhpakgjnngaaGreatDoor
