/- Store: the program's store; New, Installing, Version, Sum, Image, Working -/
import Derived.Test.YtnbngidelpodkaaPa
import Derived.Test.YtnbngidelpodkaaKe
namespace Go.Im
open Go Go.RowKit Go.Bs Go.Cl Go.Rw Go.Un
/-- the program's store -/
structure Ps where
  image : List UInt8
  ver : Nat
  inst : Bool
  next : List UInt8
  done : Nat
def Ps.work (s : Ps) : List UInt8 := if s.inst then wk s.image s.next s.done else s.image
def Ps.chs (s : Ps) : List (Nat × List UInt8) := if s.inst then dif s.image s.next else []
def Ps.steps (s : Ps) : Nat := if s.inst then tot s.image s.next else 0
structure Ps.Good (s : Ps) : Prop where
  il : s.image.length ≤ 24000
  nl : s.next.length ≤ 24000
  vl : s.ver ≤ 1000000
  dl : s.done ≤ s.steps
  off : s.inst = false → s.next = []
theorem Ps.Good.wl {s : Ps} (h : s.Good) : s.work.length ≤ 24000 := by
  unfold Ps.work; split
  · exact wk_le h.il h.nl _
  · exact h.il
theorem tot_le1000 {a b : List UInt8} (hb : b.length ≤ 24000) : tot a b ≤ 1000 := by have := tot_le a b; unfold cnt at this; omega
theorem Ps.Good.sl {s : Ps} (h : s.Good) : s.steps ≤ 1000 := by
  unfold Ps.steps; split
  · exact tot_le1000 h.nl
  · omega
/-- what a store's slices stay out of: what the store writes, and all that was there before it -/
def SF (base g h : Nat) (iv rv : Value) : List Nat := (g :: LogF h iv rv) ++ List.range base
structure StB (w : World) (base g h : Nat) (iv rv imv nxv chv : Value) (rz : Bool) (rs : List (Rec × Value)) (s : Ps) : Prop where
  good : s.Good
  hg : base ≤ g
  hc : w.heap[g]? = some (.cells #[.pointer (some ⟨h, 0, none⟩), imv, nxv, chv, .bool rz, .int .i64 s.done, .int .i64 s.steps, .int .i64 s.ver, .int .u64 (sumOf s.image)] 66 (0, 0))
  hl : LogAt w base h iv rv s.work rs s.inst
  hn : g ∉ LogF h iv rv
  hi : Bytes (SF base g h iv rv) w imv s.image
  hx : Bytes (SF base g h iv rv) w nxv s.next
  hch : ChR (SF base g h iv rv) w chv s.chs
  hr : ∀ p ∈ rs, Bytes [g] w p.2 p.1.old
  ok : ∀ p ∈ rs, p.1.ok = true
  tk : takeAll s.work (rs.map (·.1)) = s.image
  rl : rs.length = s.done
  rzv : s.inst = true → rz = rzb s.image s.next
/-- a store lies at block g -/
def StAt (w : World) (base g h : Nat) (iv rv : Value) (s : Ps) : Prop := ∃ imv nxv chv rz rs, StB w base g h iv rv imv nxv chv rz rs s
/-- a store after a call -/
def StQ (w : World) (base g h : Nat) (iv rv : Value) (s : Ps) (w' : World) : Prop := ∃ iv' rv', StAt w' base g h iv' rv' s ∧ Keep (g :: LogF h iv rv) w w' ∧ ∀ f ∈ LogF h iv' rv', f ∈ LogF h iv rv ∨ w.heap.size ≤ f
variable {w w' : World} {base g h : Nat} {iv rv imv nxv chv : Value} {rz : Bool} {rs : List (Rec × Value)} {s : Ps}
theorem ChR.keepc {F F' G : List Nat} {v : Value} {l : List (Nat × List UInt8)} (h : ChR F w v l) (hk : Keep G w w') (hG : ∀ f ∈ G, f ∈ F ∨ w.heap.size ≤ f) (hF : ∀ f ∈ F', f ∈ F ∨ w.heap.size ≤ f) : ChR F' w' v l := by
  obtain ⟨cs, h1, h2, h3⟩ := h
  exact ⟨cs, h1, Raw.keep h2 hk hG hF, fun p hp => Raw.keep (h3 p hp) hk hG hF⟩
theorem ChR.slicec {F : List Nat} {v : Value} {l : List (Nat × List UInt8)} (h : ChR F w v l) : ∃ a c, v = .slice a l.length c := by
  obtain ⟨cs, rfl, h2, _⟩ := h
  obtain ⟨a, c, rfl⟩ := Raw.slice h2
  exact ⟨a, c, by simp⟩
theorem ChR.nil (F : List Nat) (w : World) : ChR F w (.slice none 0 0) [] := ⟨[], rfl, Raw.empty _ _ _, fun p hp => by cases hp⟩
theorem StB.lt (H : StB w base g h iv rv imv nxv chv rz rs s) : g < w.heap.size := (Array.getElem?_eq_some_iff.1 H.hc).1
theorem StB.bs (H : StB w base g h iv rv imv nxv chv rz rs s) : base ≤ w.heap.size := by have := H.hg; have := H.lt; omega
theorem StB.fbase (H : StB w base g h iv rv imv nxv chv rz rs s) : ∀ f ∈ g :: LogF h iv rv, base ≤ f ∧ f < w.heap.size := fun f hf => by
  rcases List.mem_cons.1 hf with rfl | hf
  · exact ⟨H.hg, H.lt⟩
  · exact H.hl.fbase f hf
theorem mem_sf {f : Nat} (hf : f ∈ g :: LogF h iv rv) : f ∈ SF base g h iv rv := List.mem_append_left _ hf
theorem StB.sbase (H : StB w base g h iv rv imv nxv chv rz rs s) : ∀ f ∈ SF base g h iv rv, f < w.heap.size := fun f hf => by
  rcases List.mem_append.1 hf with hf | hf
  · exact (H.fbase f hf).2
  · have := List.mem_range.1 hf; have := H.bs; omega
theorem StB.below (H : StB w base g h iv rv imv nxv chv rz rs s) (hb : Below w.heap.size w w') : StB w' base g h iv rv imv nxv chv rz rs s :=
  { good := H.good, hg := H.hg, hc := (hb.block g H.lt).trans H.hc, hl := H.hl.below hb, hn := H.hn, hi := Raw.below H.hi hb, hx := Raw.below H.hx hb,
    hch := H.hch.keepc (Keep.of_below' (F := []) hb) (fun f hf => by cases hf) (fun f hf => .inl hf), hr := fun p hp => Raw.below (H.hr p hp) hb, ok := H.ok, tk := H.tk, rl := H.rl, rzv := H.rzv }
theorem StAt.below (H : StAt w base g h iv rv s) (hb : Below w.heap.size w w') : StAt w' base g h iv rv s := by
  obtain ⟨a, b, c, d, e, H⟩ := H
  exact ⟨a, b, c, d, e, H.below hb⟩
theorem StQ.same (H : StAt w base g h iv rv s) (hb : Below w.heap.size w w') : StQ w base g h iv rv s w' := ⟨iv, rv, H.below hb, Keep.of_below' hb, fun _ hf => .inl hf⟩
/-- a log beside which a block was changed -/
theorem LogAt.beside {img : List UInt8} {o : Bool} (H : LogAt w base h iv rv img rs o) (hk : Keep [g] w w') (hn : g ∉ LogF h iv rv) (hr : ∀ p ∈ rs, Bytes [g] w p.2 p.1.old) : LogAt w' base h iv rv img rs o :=
  ⟨H.hg, (hk.block h H.lt (fun hm => hn (by rw [List.mem_singleton] at hm; simp [LogF, hm]))).trans H.hc,
    own_keep H.hi hk (fun r hr' hm => hn (by rw [List.mem_singleton] at hm; subst hm; simp [LogF, hr'])),
    H.hr.keep hk (fun r hr' hm => hn (by rw [List.mem_singleton] at hm; subst hm; simp [LogF, hr'])),
    fun p hp => Raw.keep (Raw.both (H.hb p hp) (hr p hp)) hk (fun f hf => .inl (List.mem_append_right _ hf)) (fun f hf => .inl (List.mem_append_left _ hf))⟩
/-- several cells of a block set -/
def puts (w : World) (g : Nat) (l : List (Nat × Value)) : World := l.foldl (fun w p => w.setCell ⟨g, p.1, none⟩ p.2) w
theorem puts_at : ∀ (l : List (Nat × Value)) {w : World} {g : Nat} {xs : Array Value} {t : TypeId}, w.heap[g]? = some (.cells xs t (0, 0)) →
    (puts w g l).heap[g]? = some (.cells (l.foldl (fun xs p => xs.setIfInBounds p.1 p.2) xs) t (0, 0)) ∧ Keep [g] w (puts w g l)
  | [], w, g, xs, t, h => ⟨h, Keep.refl _ _⟩
  | p :: l, w, g, xs, t, h => by
    have h1 : (w.setCell ⟨g, p.1, none⟩ p.2).heap[g]? = some (.cells (xs.setIfInBounds p.1 p.2) t (0, 0)) := by
      simp only [World.setCell, Array.getElem?_modify]
      simp [h]
    obtain ⟨h2, h3⟩ := puts_at l h1
    exact ⟨h2, ((Keep.refl [g] w).setCell (by simp) _).trans h3 (fun f hf => .inl hf)⟩
theorem puts_size (l : List (Nat × Value)) (w : World) (g : Nat) : (puts w g l).heap.size = w.heap.size := by
  induction l generalizing w with
  | nil => rfl
  | cons p l ih => show (puts (w.setCell ⟨g, p.1, none⟩ p.2) g l).heap.size = _; rw [ih]; simp [World.setCell]
end Go.Im
namespace Go.Proofs.Ytnbngidelpodkaa
open Go.RowKit Go.Bs Go.Cl Go.Rw Go.Un Go.Im
set_option maxHeartbeats 1000000 in
theorem stnew_any (bv : Value) (b : List UInt8) (w : World) (hb : b.length ≤ 24000) (hB : Bytes [] w bv b) :
    Calls Try.prog 10 #[bv] w fun e w' => ∃ g h iv, e = .returned (.tuple #[.pointer (some ⟨g, 0, none⟩), .int .i64 0]) ∧ StAt w' w.heap.size g h iv (.slice none 0 0) ⟨b, 0, false, [], 0⟩ ∧ Below w.heap.size w w' := by
  obtain ⟨ba, bc, rfl⟩ := Raw.slice hB
  have HB := Lib.hid hB; clear hB
  go_enter Try.func10, Try.ntmps10
  go_wp2_with fail
  refine (new_any _ b _ hb HB.out).mono ?_
  rintro e w1 ⟨h, iv, rfl, hL, hb1⟩
  have HL := Lib.hid hL; have HB1 := Lib.hid hb1
  clear hL hb1
  go_wp2_with fail
  refine (clone33 _ (by omega) (Raw.below HB.out HB1.out)).mono ?_
  rintro e w2 ⟨v2, rfl, hown2, hb2⟩
  obtain ⟨va, vc, rfl⟩ := own_slice hown2
  have HO2 := Lib.hid hown2; have HB2 := Lib.hid hb2
  clear hown2 hb2
  go_wp2_with fail
  refine (of_any (F := []) _ b _ (by omega) (Raw.below (Raw.below HB.out HB1.out) HB2.out)).mono ?_
  rintro e w3 ⟨rfl, hb3⟩
  have HB3 := Lib.hid hb3
  clear hb3
  go_wp2
  go_ret2
  have s1 := HB1.out.size; have s2 := HB2.out.size; have s3 := HB3.out.size
  have al := (Below.refl w3.heap.size w3).alloc (Nat.le_refl _) (.cells #[.pointer (some ⟨h, 0, none⟩), .slice va b.length vc, .slice none 0 0, .slice none 0 0, .bool false, .int .i64 0, .int .i64 0, .int .i64 0, .int .u64 (sumOf b)] 66)
  have hL3 := (HL.out.below HB2.out).below HB3.out
  have hlf := HL.out.fbase
  have hgn : w3.heap.size ∉ LogF h iv (.slice none 0 0) := fun hm => by have := (hlf _ hm).2; omega
  have hb1 : Bytes (SF w.heap.size w3.heap.size h iv (.slice none 0 0)) (w3.alloc (.cells #[.pointer (some ⟨h, 0, none⟩), .slice va b.length vc, .slice none 0 0, .slice none 0 0, .bool false, .int .i64 0, .int .i64 0, .int .i64 0, .int .u64 (sumOf b)] 66)) (.slice va b.length vc) b := by
    have k1 : Bytes (LogF h iv (.slice none 0 0) ++ List.range w.heap.size) w2 (.slice va b.length vc) b := Bytes.row HO2.out rfl (fun f hf => by
      rcases List.mem_append.1 hf with hf | hf
      · exact (hlf f hf).2
      · have := List.mem_range.1 hf; omega)
    refine Raw.keep (Raw.below k1 HB3.out) (Keep.of_below' (F := []) al) (fun f hf => by cases hf) (fun f hf => ?_)
    rcases List.mem_append.1 hf with hf | hf
    · rcases List.mem_cons.1 hf with rfl | hf
      · exact .inr (Nat.le_refl _)
      · exact .inl (List.mem_append_left _ hf)
    · exact .inl (List.mem_append_right _ hf)
  refine ⟨w3.heap.size, h, iv, rfl, ⟨_, _, _, false, [], { good := ⟨hb, by simp, by simp, by simp [Ps.steps], fun _ => rfl⟩, hg := by omega, hc := heap_alloc_new w3 _, hl := ?_, hn := hgn, hi := hb1, hx := Raw.empty _ _ _, hch := ChR.nil _ _, hr := (fun p hp => by cases hp), ok := (fun p hp => by cases hp), tk := rfl, rl := rfl, rzv := (fun h => by cases h) }⟩, ?_⟩
  · exact hL3.below al
  · exact ((HB1.out.trans (HB2.out.mono s1)).trans (HB3.out.mono (by omega))).trans (al.mono (by omega))
set_option maxHeartbeats 400000 in
theorem stnew_big (bv : Value) (n : Nat) (w : World) (hb : 24000 < n) (hB : ∃ a c, bv = .slice a n c) :
    Calls Try.prog 10 #[bv] w fun e w' => e = .returned (.tuple #[.pointer none, .int .i64 6]) ∧ w = w' := by
  have hN := new_big bv n w hb hB
  obtain ⟨ba, bc, rfl⟩ := hB
  have HN := Lib.hid hN; clear hN
  go_enter Try.func10, Try.ntmps10
  go_wp2_with fail
  refine HN.out.mono ?_
  rintro e w1 ⟨rfl, rfl⟩
  go_wp2
  go_ret2
  exact ⟨rfl, rfl⟩
set_option maxHeartbeats 400000 in
theorem inst_any {base g h : Nat} {iv rv : Value} {s : Ps} (w : World) (H : StAt w base g h iv rv s) :
    Calls Try.prog 21 #[.pointer (some ⟨g, 0, none⟩)] w fun e w' => e = .returned (.bool s.inst) ∧ w = w' := by
  obtain ⟨imv, nxv, chv, rz, rs, H⟩ := H
  have c0 := box_at H.hc (j := 0) rfl
  have HL := Lib.hid H.hl
  clear H
  go_enter Try.func21, Try.ntmps21
  go_wp2_with fail
  refine (open_any _ HL.out).mono ?_
  rintro e w1 ⟨rfl, rfl⟩
  go_wp2
  go_ret
  exact ⟨rfl, rfl⟩
set_option maxHeartbeats 400000 in
theorem inst_nil (w : World) : Calls Try.prog 21 #[.pointer none] w fun e w' => e = .returned (.bool false) ∧ w = w' := by
  go_enter Try.func21, Try.ntmps21
  go_wp2
  go_ret
  exact ⟨rfl, rfl⟩
set_option maxHeartbeats 400000 in
theorem ver_any {base g h : Nat} {iv rv : Value} {s : Ps} (w : World) (H : StAt w base g h iv rv s) :
    Calls Try.prog 18 #[.pointer (some ⟨g, 0, none⟩)] w fun e w' => e = .returned (.int .i64 s.ver) ∧ w = w' := by
  obtain ⟨imv, nxv, chv, rz, rs, H⟩ := H
  have c0 := box_at H.hc (j := 7) rfl
  clear H
  go_enter Try.func18, Try.ntmps18
  go_wp2
  go_ret
  exact ⟨rfl, rfl⟩
set_option maxHeartbeats 400000 in
theorem ver_nil (w : World) : Calls Try.prog 18 #[.pointer none] w fun e w' => e = .returned (.int .i64 0) ∧ w = w' := by
  go_enter Try.func18, Try.ntmps18
  go_wp2
  go_ret
  exact ⟨rfl, rfl⟩
set_option maxHeartbeats 400000 in
theorem sum_any {base g h : Nat} {iv rv : Value} {s : Ps} (w : World) (H : StAt w base g h iv rv s) :
    Calls Try.prog 19 #[.pointer (some ⟨g, 0, none⟩)] w fun e w' => e = .returned (.int .u64 (sumOf s.image)) ∧ w = w' := by
  obtain ⟨imv, nxv, chv, rz, rs, H⟩ := H
  have c0 := box_at H.hc (j := 8) rfl
  clear H
  go_enter Try.func19, Try.ntmps19
  go_wp2
  go_ret
  exact ⟨rfl, rfl⟩
set_option maxHeartbeats 400000 in
theorem sum_nil (w : World) : Calls Try.prog 19 #[.pointer none] w fun e w' => e = .returned (.int .u64 0) ∧ w = w' := by
  go_enter Try.func19, Try.ntmps19
  go_wp2
  go_ret
  exact ⟨rfl, rfl⟩
set_option maxHeartbeats 400000 in
theorem img_any {base g h : Nat} {iv rv : Value} {s : Ps} (w : World) (H : StAt w base g h iv rv s) :
    Calls Try.prog 16 #[.pointer (some ⟨g, 0, none⟩)] w fun e w' => ∃ v, e = .returned v ∧ w'.ownsRow w.heap.size 5 1 v s.image.length (bytesV s.image) ∧ Below w.heap.size w w' := by
  obtain ⟨imv, nxv, chv, rz, rs, H⟩ := H
  have c0 := box_at H.hc (j := 1) rfl
  have hl : s.image.length ≤ 1000000 := by have := H.good.il; omega
  have HB := Lib.hid H.hi
  obtain ⟨a, c, rfl⟩ := Raw.slice H.hi
  clear H
  go_enter Try.func16, Try.ntmps16
  go_wp2_with fail
  refine (clone33 _ hl HB.out).mono ?_
  rintro e w1 ⟨v1, rfl, hown, hb⟩
  have HO := Lib.hid hown
  obtain ⟨a1, c1, rfl⟩ := own_slice hown
  clear hown
  go_wp2
  go_ret
  exact ⟨_, rfl, HO.out, hb⟩
set_option maxHeartbeats 400000 in
theorem img_nil (w : World) : Calls Try.prog 16 #[.pointer none] w fun e w' => e = .returned (.slice none 0 0) ∧ w = w' := by
  go_enter Try.func16, Try.ntmps16
  go_wp2
  go_ret
  exact ⟨rfl, rfl⟩
set_option maxHeartbeats 400000 in
theorem work_any {base g h : Nat} {iv rv : Value} {s : Ps} (w : World) (H : StAt w base g h iv rv s) :
    Calls Try.prog 12 #[.pointer (some ⟨g, 0, none⟩)] w fun e w' => ∃ v, e = .returned v ∧ w'.ownsRow w.heap.size 5 1 v s.work.length (bytesV s.work) ∧ Below w.heap.size w w' := by
  obtain ⟨imv, nxv, chv, rz, rs, H⟩ := H
  have c0 := box_at H.hc (j := 0) rfl
  have hl := H.good.wl
  have HL := Lib.hid H.hl
  clear H
  go_enter Try.func12, Try.ntmps12
  go_wp2_with fail
  refine (image_any _ HL.out hl).mono ?_
  rintro e w1 ⟨v1, rfl, hown, hb⟩
  have HO := Lib.hid hown
  obtain ⟨a1, c1, rfl⟩ := own_slice hown
  clear hown
  go_wp2
  go_ret
  exact ⟨_, rfl, HO.out, hb⟩
set_option maxHeartbeats 400000 in
theorem work_nil (w : World) : Calls Try.prog 12 #[.pointer none] w fun e w' => e = .returned (.slice none 0 0) ∧ w = w' := by
  go_enter Try.func12, Try.ntmps12
  go_wp2
  go_ret
  exact ⟨rfl, rfl⟩
end Go.Proofs.Ytnbngidelpodkaa
