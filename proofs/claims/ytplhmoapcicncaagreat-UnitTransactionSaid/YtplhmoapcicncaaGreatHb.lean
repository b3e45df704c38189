/- unit: New, the getters -/
import Derived.Test.YtplhmoapcicncaaGreatHa
namespace Go.Im
open Go Go.RowKit Go.Bs Go.Cl Go.Rw Go.Un
/-- what a unit's calls write -/
def UF (u g h : Nat) (iv rv : Value) : List Nat := u :: g :: LogF h iv rv
structure UAt (w : World) (base u g h : Nat) (iv rv lv : Value) (x : Us) (s : Ps) : Prop where
  hu : w.heap[u]? = some (.cells (UCells x g lv) 67 (0, 0))
  hs : StAt w base g h iv rv s
  hl : Raw (UF u g h iv rv) 2 w lv x.led.length (x.led.flatMap Lg.encL)
variable {w w' : World} {base u g h : Nat} {iv rv lv : Value} {x : Us} {s : Ps}
theorem UAt.box (H : UAt w base u g h iv rv lv x s) : UBox w u := by
  obtain ⟨a, c, e⟩ := Raw.slice H.hl
  exact ⟨x, g, lv, ⟨_, _, _, e⟩, H.hu⟩
theorem UAt.lt (H : UAt w base u g h iv rv lv x s) : u < w.heap.size := (Array.getElem?_eq_some_iff.1 H.hu).1
theorem UAt.ufl (H : UAt w base u g h iv rv lv x s) : ∀ f ∈ UF u g h iv rv, f < w.heap.size := fun f hf => by
  obtain ⟨_, _, _, _, _, H'⟩ := H.hs
  rcases List.mem_cons.1 hf with rfl | hf
  · exact H.lt
  · exact (H'.fbase f hf).2
theorem UAt.ufb (H : UAt w base u g h iv rv lv x s) (hb : base ≤ u) : ∀ f ∈ UF u g h iv rv, base ≤ f := fun f hf => by
  obtain ⟨_, _, _, _, _, H'⟩ := H.hs
  rcases List.mem_cons.1 hf with rfl | hf
  · exact hb
  · exact (H'.fbase f hf).1
theorem UAt.below (H : UAt w base u g h iv rv lv x s) (hb : Below w.heap.size w w') : UAt w' base u g h iv rv lv x s := ⟨(hb.block u H.lt).trans H.hu, H.hs.below hb, Raw.below H.hl hb⟩
/-- a call of the store -/
theorem UAt.store (H : UAt w base u g h iv rv lv x s) {s' : Ps} (Q : StQ w base g h iv rv s' w') : ∃ iv' rv', UAt w' base u g h iv' rv' lv x s' ∧ Keep (UF u g h iv rv) w w' ∧ ∀ f ∈ UF u g h iv' rv', f ∈ UF u g h iv rv ∨ w.heap.size ≤ f := by
  obtain ⟨iv', rv', h1, h2, h3⟩ := Q
  have hk : Keep (UF u g h iv rv) w w' := h2.mono (fun f hf => .inl (List.mem_cons_of_mem _ hf))
  have hf : ∀ f ∈ UF u g h iv' rv', f ∈ UF u g h iv rv ∨ w.heap.size ≤ f := fun f hf => by
    simp only [UF, List.mem_cons] at hf ⊢
    rcases hf with rfl | rfl | hf
    · exact .inl (.inl rfl)
    · exact .inl (.inr (.inl rfl))
    · rcases h3 f hf with h | h
      · exact .inl (.inr (.inr h))
      · exact .inr h
  refine ⟨iv', rv', ⟨?_, h1, Raw.keep H.hl hk (fun f hf => .inl hf) hf⟩, hk, hf⟩
  obtain ⟨_, _, _, _, _, H'⟩ := H.hs
  exact (h2.block u H.lt (H'.apartR H.box)).trans H.hu
/-- cells of the unit's own block set -/
theorem UAt.set (H : UAt w base u g h iv rv lv x s) {x' : Us} {lv' : Value} (hk : Keep [u] w w') (hu : w'.heap[u]? = some (.cells (UCells x' g lv') 67 (0, 0))) (hl : Raw (UF u g h iv rv) 2 w lv' x'.led.length (x'.led.flatMap Lg.encL)) : UAt w' base u g h iv rv lv' x' s := by
  obtain ⟨imv, nxv, chv, rz, rs, H'⟩ := H.hs
  exact ⟨hu, ⟨imv, nxv, chv, rz, rs, H'.beside H.box hk⟩, Raw.keep hl hk (fun f hf => .inl (by rw [List.mem_singleton.1 hf]; simp [UF])) (fun f hf => .inl hf)⟩
/-- a unit that a law has made, and rows that it keeps -/
def ULiv (w0 : World) (u : Nat) (x : Us) (s : Ps) (rows : List (Value × List UInt8)) (w : World) : Prop :=
  Below w0.heap.size w0 w ∧ ∃ base g h iv rv lv, w0.heap.size ≤ base ∧ base ≤ u ∧ UAt w base u g h iv rv lv x s ∧ ∀ p ∈ rows, Bytes (UF u g h iv rv) w p.1 p.2
variable {w0 : World} {rows : List (Value × List UInt8)}
theorem ULiv.below (H : ULiv w0 u x s rows w) (hb : Below w.heap.size w w') : ULiv w0 u x s rows w' := by
  obtain ⟨h1, base, g, h, iv, rv, lv, h2, h3, h4, h5⟩ := H
  exact ⟨h1.trans (hb.mono h1.size), base, g, h, iv, rv, lv, h2, h3, h4.below hb, fun p hp => Raw.below (h5 p hp) hb⟩
/-- a row that a call has made -/
theorem ULiv.row (H : ULiv w0 u x s rows w) (hb : Below w.heap.size w w') {e : Nat} {v : Value} {l : List UInt8} (ho : w'.ownsRow w.heap.size e 1 v l.length (bytesV l)) : ULiv w0 u x s ((v, l) :: rows) w' := by
  obtain ⟨h1, base, g, h, iv, rv, lv, h2, h3, h4, h5⟩ := H
  exact ⟨h1.trans (hb.mono h1.size), base, g, h, iv, rv, lv, h2, h3, h4.below hb, fun p hp => by
    rcases List.mem_cons.1 hp with rfl | hp
    · exact Bytes.row ho rfl h4.ufl
    · exact Raw.below (h5 p hp) hb⟩
theorem ULiv.arg (H : ULiv w0 u x s rows w) {v : Value} {l : List UInt8} (hB : Bytes [] w0 v l) : ULiv w0 u x s ((v, l) :: rows) w := by
  obtain ⟨h1, base, g, h, iv, rv, lv, h2, h3, h4, h5⟩ := H
  exact ⟨h1, base, g, h, iv, rv, lv, h2, h3, h4, fun p hp => by
    rcases List.mem_cons.1 hp with rfl | hp
    · exact Raw.keep (F' := UF u g h iv rv) hB (Keep.of_below' (F := []) h1) (fun f hf => by cases hf) (fun f hf => .inr (Nat.le_trans h2 (h4.ufb h3 f hf)))
    · exact h5 p hp⟩
theorem ULiv.sub (H : ULiv w0 u x s rows w) {rows' : List (Value × List UInt8)} (h : ∀ p ∈ rows', p ∈ rows) : ULiv w0 u x s rows' w := by
  obtain ⟨h1, base, g, h', iv, rv, lv, h2, h3, h4, h5⟩ := H
  exact ⟨h1, base, g, h', iv, rv, lv, h2, h3, h4, fun p hp => h5 p (h p hp)⟩
theorem ULiv.bytes (H : ULiv w0 u x s rows w) {v : Value} {l : List UInt8} (hp : (v, l) ∈ rows) : Bytes [] w v l := by
  obtain ⟨_, base, g, h, iv, rv, lv, _, _, _, h5⟩ := H
  exact Raw.to_nil (h5 _ hp)
end Go.Im
namespace Go.Proofs.YtplhmoapcicncaaGreat
open Go.RowKit Go.Bs Go.Cl Go.Rw Go.Un Go.Im Go.Fa
set_option maxRecDepth 100000 in
set_option maxHeartbeats 1000000 in
theorem unew_ok (t : Int) (bv : Value) (b : List UInt8) (w0 w : World) (h1 : 1 ≤ t) (h2 : t ≤ 10) (hb : b.length ≤ 24000) (h0 : Below w0.heap.size w0 w) (hB : Bytes [] w bv b) :
    Calls Tryz.prog 5 #[.int .i64 t, bv] w fun e w' => ∃ u, e = .returned (.tuple #[.pointer (some ⟨u, 0, none⟩), .int .i64 0]) ∧ ULiv w0 u ⟨t, [], 1, 1, 1, 2, 2, false, 0⟩ ⟨b, 0, false, [], 0⟩ [] w' := by
  obtain ⟨ba, bc, rfl⟩ := Raw.slice hB
  have HB := Lib.hid hB; clear hB
  go_enter Tryz.func5, Tryz.ntmps5
  go_wp2_with fail
  refine (stnew_any _ b _ hb HB.out).mono ?_
  rintro e w1 ⟨g, h, iv, rfl, hs, hb1⟩
  have HS := Lib.hid hs; have HB1 := Lib.hid hb1
  clear hs hb1
  go_wp2
  go_ret2
  have hz := HB1.out.size
  refine ⟨_, rfl, h0.trans ((HB1.out.alloc hz _).mono h0.size), w.heap.size, g, h, iv, _, _, h0.size, hz, ⟨heap_alloc_new w1 _, HS.out.below ((Below.refl _ w1).alloc (Nat.le_refl _) _), Raw.empty _ _ _⟩, fun p hp => by cases hp⟩
set_option maxRecDepth 100000 in
set_option maxHeartbeats 1000000 in
theorem unew_task (t : Int) (bv : Value) (w : World) (h : t < 1 ∨ 10 < t) : Calls Tryz.prog 5 #[.int .i64 t, bv] w fun e w' => e = .returned (.tuple #[.pointer none, .int .i64 1]) ∧ w = w' := by
  by_cases h1 : t < 1
  · go_enter Tryz.func5, Tryz.ntmps5
    go_wp2
    go_ret2
    exact ⟨rfl, rfl⟩
  · have h2 : 10 < t := by omega
    go_enter Tryz.func5, Tryz.ntmps5
    go_wp2
    go_ret2
    exact ⟨rfl, rfl⟩
set_option maxRecDepth 100000 in
set_option maxHeartbeats 1000000 in
theorem unew_big (t : Int) (bv : Value) (n : Nat) (w : World) (h1 : 1 ≤ t) (h2 : t ≤ 10) (hb : 24000 < n) (hB : ∃ a c, bv = .slice a n c) : Calls Tryz.prog 5 #[.int .i64 t, bv] w fun e w' => e = .returned (.tuple #[.pointer none, .int .i64 6]) ∧ w = w' := by
  have hN := stnew_big bv n w hb hB
  obtain ⟨ba, bc, rfl⟩ := hB
  go_enter Tryz.func5, Tryz.ntmps5
  go_wp2_with fail
  refine hN.mono ?_
  rintro e w1 ⟨rfl, rfl⟩
  go_wp2
  go_ret2
  exact ⟨rfl, rfl⟩
set_option maxHeartbeats 1000000 in
theorem unumber_any {base u g h : Nat} {iv rv lv : Value} {x : Us} {s : Ps} {w : World} (H : UAt w base u g h iv rv lv x s) : Calls Tryz.prog 11 #[.pointer (some ⟨u, 0, none⟩)] w fun e w' => e = .returned (.int .i64 x.num) ∧ w = w' := by
  have hu := H.hu
  have u0 : w.cell? ⟨u, 0, none⟩ = some (.int .i64 x.task) := box_at hu rfl
  have u1 : w.cell? ⟨u, 1, none⟩ = some (.pointer (some ⟨g, 0, none⟩)) := box_at hu rfl
  have u2 : w.cell? ⟨u, 2, none⟩ = some (_) := box_at hu rfl
  have u3 : w.cell? ⟨u, 3, none⟩ = some (.int .i64 x.num) := box_at hu rfl
  have u4 : w.cell? ⟨u, 4, none⟩ = some (.int .i64 x.att) := box_at hu rfl
  have u5 : w.cell? ⟨u, 5, none⟩ = some (.int .i64 x.i0) := box_at hu rfl
  have u6 : w.cell? ⟨u, 6, none⟩ = some (.int .i64 x.i1) := box_at hu rfl
  have u7 : w.cell? ⟨u, 7, none⟩ = some (.int .i64 x.gr) := box_at hu rfl
  have u8 : w.cell? ⟨u, 8, none⟩ = some (.bool x.down) := box_at hu rfl
  have u9 : w.cell? ⟨u, 9, none⟩ = some (.int .i64 x.lost) := box_at hu rfl
  clear hu H
  have h1 : Calls Tryz.prog 34 #[.pointer (some ⟨u, 0, none⟩)] w fun e w' => e = .returned (.int .i64 x.num) ∧ w = w' := by
    go_enter Tryz.func34, Tryz.ntmps34
    go_wp2
    go_ret
    exact ⟨rfl, rfl⟩
  have h2 : Calls Tryz.prog 22 #[.pointer (some ⟨u, 0, none⟩), .func (.func 34) #[] #[]] w fun e w' => e = .returned (.int .i64 x.num) ∧ w = w' := by
    clear u0 u1 u2 u3 u4 u5 u6 u7 u8 u9
    go_enter Tryz.func22, Tryz.ntmps22
    go_wp2_with fail
    refine h1.mono ?_
    rintro e w1 ⟨rfl, rfl⟩
    go_wp2
    go_ret
    exact ⟨rfl, rfl⟩
  clear h1 u0 u1 u2 u3 u4 u5 u6 u7 u8 u9
  go_enter Tryz.func11, Tryz.ntmps11
  go_wp2_with fail
  refine h2.mono ?_
  rintro e w1 ⟨rfl, rfl⟩
  go_wp2
  go_ret
  exact ⟨rfl, rfl⟩
set_option maxHeartbeats 1000000 in
theorem unumber_nil (w : World) : Calls Tryz.prog 11 #[.pointer none] w fun e w' => e = .returned (.int .i64 0) ∧ w = w' := by
  have h2 : Calls Tryz.prog 22 #[.pointer none, .func (.func 34) #[] #[]] w fun e w' => e = .returned (.int .i64 0) ∧ w = w' := by
    go_enter Tryz.func22, Tryz.ntmps22
    go_wp2
    go_ret
    exact ⟨rfl, rfl⟩
  go_enter Tryz.func11, Tryz.ntmps11
  go_wp2_with fail
  refine h2.mono ?_
  rintro e w1 ⟨rfl, rfl⟩
  go_wp2
  go_ret
  exact ⟨rfl, rfl⟩
set_option maxHeartbeats 1000000 in
theorem ulost_any {base u g h : Nat} {iv rv lv : Value} {x : Us} {s : Ps} {w : World} (H : UAt w base u g h iv rv lv x s) : Calls Tryz.prog 7 #[.pointer (some ⟨u, 0, none⟩)] w fun e w' => e = .returned (.int .i64 x.lost) ∧ w = w' := by
  have hu := H.hu
  have u0 : w.cell? ⟨u, 0, none⟩ = some (.int .i64 x.task) := box_at hu rfl
  have u1 : w.cell? ⟨u, 1, none⟩ = some (.pointer (some ⟨g, 0, none⟩)) := box_at hu rfl
  have u2 : w.cell? ⟨u, 2, none⟩ = some (_) := box_at hu rfl
  have u3 : w.cell? ⟨u, 3, none⟩ = some (.int .i64 x.num) := box_at hu rfl
  have u4 : w.cell? ⟨u, 4, none⟩ = some (.int .i64 x.att) := box_at hu rfl
  have u5 : w.cell? ⟨u, 5, none⟩ = some (.int .i64 x.i0) := box_at hu rfl
  have u6 : w.cell? ⟨u, 6, none⟩ = some (.int .i64 x.i1) := box_at hu rfl
  have u7 : w.cell? ⟨u, 7, none⟩ = some (.int .i64 x.gr) := box_at hu rfl
  have u8 : w.cell? ⟨u, 8, none⟩ = some (.bool x.down) := box_at hu rfl
  have u9 : w.cell? ⟨u, 9, none⟩ = some (.int .i64 x.lost) := box_at hu rfl
  clear hu H
  have h1 : Calls Tryz.prog 23 #[.pointer (some ⟨u, 0, none⟩)] w fun e w' => e = .returned (.int .i64 x.lost) ∧ w = w' := by
    go_enter Tryz.func23, Tryz.ntmps23
    go_wp2
    go_ret
    exact ⟨rfl, rfl⟩
  have h2 : Calls Tryz.prog 22 #[.pointer (some ⟨u, 0, none⟩), .func (.func 23) #[] #[]] w fun e w' => e = .returned (.int .i64 x.lost) ∧ w = w' := by
    clear u0 u1 u2 u3 u4 u5 u6 u7 u8 u9
    go_enter Tryz.func22, Tryz.ntmps22
    go_wp2_with fail
    refine h1.mono ?_
    rintro e w1 ⟨rfl, rfl⟩
    go_wp2
    go_ret
    exact ⟨rfl, rfl⟩
  clear h1 u0 u1 u2 u3 u4 u5 u6 u7 u8 u9
  go_enter Tryz.func7, Tryz.ntmps7
  go_wp2_with fail
  refine h2.mono ?_
  rintro e w1 ⟨rfl, rfl⟩
  go_wp2
  go_ret
  exact ⟨rfl, rfl⟩
set_option maxHeartbeats 1000000 in
theorem ulost_nil (w : World) : Calls Tryz.prog 7 #[.pointer none] w fun e w' => e = .returned (.int .i64 0) ∧ w = w' := by
  have h2 : Calls Tryz.prog 22 #[.pointer none, .func (.func 23) #[] #[]] w fun e w' => e = .returned (.int .i64 0) ∧ w = w' := by
    go_enter Tryz.func22, Tryz.ntmps22
    go_wp2
    go_ret
    exact ⟨rfl, rfl⟩
  go_enter Tryz.func7, Tryz.ntmps7
  go_wp2_with fail
  refine h2.mono ?_
  rintro e w1 ⟨rfl, rfl⟩
  go_wp2
  go_ret
  exact ⟨rfl, rfl⟩
set_option maxHeartbeats 1000000 in
theorem udown_any {base u g h : Nat} {iv rv lv : Value} {x : Us} {s : Ps} {w : World} (H : UAt w base u g h iv rv lv x s) : Calls Tryz.prog 13 #[.pointer (some ⟨u, 0, none⟩)] w fun e w' => e = .returned (.bool x.down) ∧ w = w' := by
  have hu := H.hu
  have u0 : w.cell? ⟨u, 0, none⟩ = some (.int .i64 x.task) := box_at hu rfl
  have u1 : w.cell? ⟨u, 1, none⟩ = some (.pointer (some ⟨g, 0, none⟩)) := box_at hu rfl
  have u2 : w.cell? ⟨u, 2, none⟩ = some (_) := box_at hu rfl
  have u3 : w.cell? ⟨u, 3, none⟩ = some (.int .i64 x.num) := box_at hu rfl
  have u4 : w.cell? ⟨u, 4, none⟩ = some (.int .i64 x.att) := box_at hu rfl
  have u5 : w.cell? ⟨u, 5, none⟩ = some (.int .i64 x.i0) := box_at hu rfl
  have u6 : w.cell? ⟨u, 6, none⟩ = some (.int .i64 x.i1) := box_at hu rfl
  have u7 : w.cell? ⟨u, 7, none⟩ = some (.int .i64 x.gr) := box_at hu rfl
  have u8 : w.cell? ⟨u, 8, none⟩ = some (.bool x.down) := box_at hu rfl
  have u9 : w.cell? ⟨u, 9, none⟩ = some (.int .i64 x.lost) := box_at hu rfl
  clear hu H
  have h1 : Calls Tryz.prog 38 #[.pointer (some ⟨u, 0, none⟩)] w fun e w' => e = .returned (.bool x.down) ∧ w = w' := by
    go_enter Tryz.func38, Tryz.ntmps38
    go_wp2
    go_ret
    exact ⟨rfl, rfl⟩
  have h2 : Calls Tryz.prog 37 #[.pointer (some ⟨u, 0, none⟩), .func (.func 38) #[] #[]] w fun e w' => e = .returned (.bool x.down) ∧ w = w' := by
    clear u0 u1 u2 u3 u4 u5 u6 u7 u8 u9
    go_enter Tryz.func37, Tryz.ntmps37
    go_wp2_with fail
    refine h1.mono ?_
    rintro e w1 ⟨rfl, rfl⟩
    go_wp2
    go_ret
    exact ⟨rfl, rfl⟩
  clear h1 u0 u1 u2 u3 u4 u5 u6 u7 u8 u9
  go_enter Tryz.func13, Tryz.ntmps13
  go_wp2_with fail
  refine h2.mono ?_
  rintro e w1 ⟨rfl, rfl⟩
  go_wp2
  go_ret
  exact ⟨rfl, rfl⟩
set_option maxHeartbeats 1000000 in
theorem udown_nil (w : World) : Calls Tryz.prog 13 #[.pointer none] w fun e w' => e = .returned (.bool false) ∧ w = w' := by
  have h2 : Calls Tryz.prog 37 #[.pointer none, .func (.func 38) #[] #[]] w fun e w' => e = .returned (.bool false) ∧ w = w' := by
    go_enter Tryz.func37, Tryz.ntmps37
    go_wp2
    go_ret
    exact ⟨rfl, rfl⟩
  go_enter Tryz.func13, Tryz.ntmps13
  go_wp2_with fail
  refine h2.mono ?_
  rintro e w1 ⟨rfl, rfl⟩
  go_wp2
  go_ret
  exact ⟨rfl, rfl⟩
set_option maxHeartbeats 1000000 in
theorem uimage_nil (w : World) : Calls Tryz.prog 9 #[.pointer none] w fun e w' => e = .returned (.slice none 0 0) ∧ w = w' := by
  have h2 : Calls Tryz.prog 27 #[.pointer none, .func (.func 28) #[] #[]] w fun e w' => e = .returned (.slice none 0 0) ∧ w = w' := by
    go_enter Tryz.func27, Tryz.ntmps27
    go_wp2
    go_ret
    exact ⟨rfl, rfl⟩
  go_enter Tryz.func9, Tryz.ntmps9
  go_wp2_with fail
  refine h2.mono ?_
  rintro e w1 ⟨rfl, rfl⟩
  go_wp2
  go_ret
  exact ⟨rfl, rfl⟩
set_option maxHeartbeats 1000000 in
theorem uversion_nil (w : World) : Calls Tryz.prog 12 #[.pointer none] w fun e w' => e = .returned (.int .i64 0) ∧ w = w' := by
  have h2 : Calls Tryz.prog 22 #[.pointer none, .func (.func 35) #[] #[]] w fun e w' => e = .returned (.int .i64 0) ∧ w = w' := by
    go_enter Tryz.func22, Tryz.ntmps22
    go_wp2
    go_ret
    exact ⟨rfl, rfl⟩
  go_enter Tryz.func12, Tryz.ntmps12
  go_wp2_with fail
  refine h2.mono ?_
  rintro e w1 ⟨rfl, rfl⟩
  go_wp2
  go_ret
  exact ⟨rfl, rfl⟩
set_option maxHeartbeats 1000000 in
theorem uledger_nil (w : World) : Calls Tryz.prog 31 #[.pointer none] w fun e w' => e = .returned (.slice none 0 0) ∧ w = w' := by
  have h2 : Calls Tryz.prog 51 #[.pointer none, .func (.func 52) #[] #[]] w fun e w' => e = .returned (.slice none 0 0) ∧ w = w' := by
    go_enter Tryz.func51, Tryz.ntmps51
    go_wp2
    go_ret
    exact ⟨rfl, rfl⟩
  go_enter Tryz.func31, Tryz.ntmps31
  go_wp2_with fail
  refine h2.mono ?_
  rintro e w1 ⟨rfl, rfl⟩
  go_wp2
  go_ret
  exact ⟨rfl, rfl⟩
set_option maxHeartbeats 1000000 in
theorem uversion_any {base u g h : Nat} {iv rv lv : Value} {x : Us} {s : Ps} {w : World} (H : UAt w base u g h iv rv lv x s) : Calls Tryz.prog 12 #[.pointer (some ⟨u, 0, none⟩)] w fun e w' => e = .returned (.int .i64 s.ver) ∧ w = w' := by
  have hu := H.hu
  have HS := Lib.hid H.hs
  have u0 : w.cell? ⟨u, 0, none⟩ = some (.int .i64 x.task) := box_at hu rfl
  have u1 : w.cell? ⟨u, 1, none⟩ = some (.pointer (some ⟨g, 0, none⟩)) := box_at hu rfl
  have u2 : w.cell? ⟨u, 2, none⟩ = some (_) := box_at hu rfl
  have u3 : w.cell? ⟨u, 3, none⟩ = some (.int .i64 x.num) := box_at hu rfl
  have u4 : w.cell? ⟨u, 4, none⟩ = some (.int .i64 x.att) := box_at hu rfl
  have u5 : w.cell? ⟨u, 5, none⟩ = some (.int .i64 x.i0) := box_at hu rfl
  have u6 : w.cell? ⟨u, 6, none⟩ = some (.int .i64 x.i1) := box_at hu rfl
  have u7 : w.cell? ⟨u, 7, none⟩ = some (.int .i64 x.gr) := box_at hu rfl
  have u8 : w.cell? ⟨u, 8, none⟩ = some (.bool x.down) := box_at hu rfl
  have u9 : w.cell? ⟨u, 9, none⟩ = some (.int .i64 x.lost) := box_at hu rfl
  clear hu H
  have h1 : Calls Tryz.prog 35 #[.pointer (some ⟨u, 0, none⟩)] w fun e w' => e = .returned (.int .i64 s.ver) ∧ w = w' := by
    go_enter Tryz.func35, Tryz.ntmps35
    go_wp2_with fail
    refine (ver_any _ HS.out).mono ?_
    rintro e w1 ⟨rfl, rfl⟩
    go_wp2
    go_ret
    exact ⟨rfl, rfl⟩
  clear u0 u1 u2 u3 u4 u5 u6 u7 u8 u9
  have h2 : Calls Tryz.prog 22 #[.pointer (some ⟨u, 0, none⟩), .func (.func 35) #[] #[]] w fun e w' => e = .returned (.int .i64 s.ver) ∧ w = w' := by
    go_enter Tryz.func22, Tryz.ntmps22
    go_wp2_with fail
    refine h1.mono ?_
    rintro e w1 ⟨rfl, rfl⟩
    go_wp2
    go_ret
    exact ⟨rfl, rfl⟩
  clear h1
  go_enter Tryz.func12, Tryz.ntmps12
  go_wp2_with fail
  refine h2.mono ?_
  rintro e w1 ⟨rfl, rfl⟩
  go_wp2
  go_ret
  exact ⟨rfl, rfl⟩
set_option maxRecDepth 100000 in
set_option maxHeartbeats 1000000 in
theorem uimage_any {base u g h : Nat} {iv rv lv : Value} {x : Us} {s : Ps} {w : World} (H : UAt w base u g h iv rv lv x s) : Calls Tryz.prog 9 #[.pointer (some ⟨u, 0, none⟩)] w fun e w' => ∃ v, e = .returned v ∧ w'.ownsRow w.heap.size 5 1 v s.image.length (bytesV s.image) ∧ Below w.heap.size w w' := by
  have hu := H.hu
  have HS := Lib.hid H.hs
  have HL := Lib.hid H.hl
  obtain ⟨la, lc, rfl⟩ := Raw.slice H.hl
  have u0 : w.cell? ⟨u, 0, none⟩ = some (.int .i64 x.task) := box_at hu rfl
  have u1 : w.cell? ⟨u, 1, none⟩ = some (.pointer (some ⟨g, 0, none⟩)) := box_at hu rfl
  have u2 : w.cell? ⟨u, 2, none⟩ = some (_) := box_at hu rfl
  have u3 : w.cell? ⟨u, 3, none⟩ = some (.int .i64 x.num) := box_at hu rfl
  have u4 : w.cell? ⟨u, 4, none⟩ = some (.int .i64 x.att) := box_at hu rfl
  have u5 : w.cell? ⟨u, 5, none⟩ = some (.int .i64 x.i0) := box_at hu rfl
  have u6 : w.cell? ⟨u, 6, none⟩ = some (.int .i64 x.i1) := box_at hu rfl
  have u7 : w.cell? ⟨u, 7, none⟩ = some (.int .i64 x.gr) := box_at hu rfl
  have u8 : w.cell? ⟨u, 8, none⟩ = some (.bool x.down) := box_at hu rfl
  have u9 : w.cell? ⟨u, 9, none⟩ = some (.int .i64 x.lost) := box_at hu rfl
  clear hu H
  have h1 : Calls Tryz.prog 28 #[.pointer (some ⟨u, 0, none⟩)] w fun e w' => ∃ v, e = .returned v ∧ w'.ownsRow w.heap.size 5 1 v s.image.length (bytesV s.image) ∧ Below w.heap.size w w' := by
    go_enter Tryz.func28, Tryz.ntmps28
    go_wp2_with fail
    refine (img_any _ HS.out).mono ?_
    rintro e w1 ⟨v, rfl, ho, hb⟩
    have HO := Lib.hid ho; have HBB := Lib.hid hb
    clear ho hb
    go_wp2
    go_ret
    exact ⟨v, rfl, HO.out, HBB.out⟩
  clear u0 u1 u2 u3 u4 u5 u6 u7 u8 u9
  have h2 : Calls Tryz.prog 27 #[.pointer (some ⟨u, 0, none⟩), .func (.func 28) #[] #[]] w fun e w' => ∃ v, e = .returned v ∧ w'.ownsRow w.heap.size 5 1 v s.image.length (bytesV s.image) ∧ Below w.heap.size w w' := by
    go_enter Tryz.func27, Tryz.ntmps27
    go_wp2_with fail
    refine h1.mono ?_
    rintro e w1 ⟨v, rfl, ho, hb⟩
    have HO := Lib.hid ho; have HBB := Lib.hid hb
    clear ho hb
    go_wp2
    go_ret
    exact ⟨v, rfl, HO.out, HBB.out⟩
  clear h1
  go_enter Tryz.func9, Tryz.ntmps9
  go_wp2_with fail
  refine h2.mono ?_
  rintro e w1 ⟨v, rfl, ho, hb⟩
  have HO := Lib.hid ho; have HBB := Lib.hid hb
  clear ho hb
  go_wp2
  go_ret
  exact ⟨v, rfl, HO.out, HBB.out⟩
set_option maxRecDepth 100000 in
set_option maxHeartbeats 1000000 in
theorem uledger_any {base u g h : Nat} {iv rv lv : Value} {x : Us} {s : Ps} {w : World} (H : UAt w base u g h iv rv lv x s) (hll : x.led.length ≤ 1000) : Calls Tryz.prog 31 #[.pointer (some ⟨u, 0, none⟩)] w fun e w' => ∃ v, e = .returned v ∧ w'.ownsRow w.heap.size 100 2 v x.led.length (x.led.flatMap Lg.encL) ∧ Below w.heap.size w w' := by
  have hu := H.hu
  have HS := Lib.hid H.hs
  have HL := Lib.hid H.hl
  obtain ⟨la, lc, rfl⟩ := Raw.slice H.hl
  have u0 : w.cell? ⟨u, 0, none⟩ = some (.int .i64 x.task) := box_at hu rfl
  have u1 : w.cell? ⟨u, 1, none⟩ = some (.pointer (some ⟨g, 0, none⟩)) := box_at hu rfl
  have u2 : w.cell? ⟨u, 2, none⟩ = some (_) := box_at hu rfl
  have u3 : w.cell? ⟨u, 3, none⟩ = some (.int .i64 x.num) := box_at hu rfl
  have u4 : w.cell? ⟨u, 4, none⟩ = some (.int .i64 x.att) := box_at hu rfl
  have u5 : w.cell? ⟨u, 5, none⟩ = some (.int .i64 x.i0) := box_at hu rfl
  have u6 : w.cell? ⟨u, 6, none⟩ = some (.int .i64 x.i1) := box_at hu rfl
  have u7 : w.cell? ⟨u, 7, none⟩ = some (.int .i64 x.gr) := box_at hu rfl
  have u8 : w.cell? ⟨u, 8, none⟩ = some (.bool x.down) := box_at hu rfl
  have u9 : w.cell? ⟨u, 9, none⟩ = some (.int .i64 x.lost) := box_at hu rfl
  clear hu H
  have h1 : Calls Tryz.prog 52 #[.pointer (some ⟨u, 0, none⟩)] w fun e w' => ∃ v, e = .returned v ∧ w'.ownsRow w.heap.size 100 2 v x.led.length (x.led.flatMap Lg.encL) ∧ Below w.heap.size w w' := by
    go_enter Tryz.func52, Tryz.ntmps52
    go_wp2_with (at_builtin; refine wpList_app Ldg.el25 Tryz.underlying65 (World.ownsRow_nil w w.heap.size 100 2) HL.out (Below.refl w.heap.size w) rfl _ _ rfl rfl rfl ?c3 (Nat.le_refl _) (Nat.le_refl _) ?_)
    case c3 => omega
    intro v1 w1 hown hb1 hg1 hs1
    obtain ⟨a1, c1, rfl⟩ := own_slice hown
    have HO : Hid (w1.ownsRow w.heap.size 100 2 (.slice a1 x.led.length c1) x.led.length (x.led.flatMap Lg.encL)) := Lib.hid (by simpa using hown)
    have HBB := Lib.hid hb1
    clear hown hb1 hg1
    go_wp2
    go_ret
    exact ⟨_, rfl, HO.out, HBB.out⟩
  clear u0 u1 u2 u3 u4 u5 u6 u7 u8 u9
  have h2 : Calls Tryz.prog 51 #[.pointer (some ⟨u, 0, none⟩), .func (.func 52) #[] #[]] w fun e w' => ∃ v, e = .returned v ∧ w'.ownsRow w.heap.size 100 2 v x.led.length (x.led.flatMap Lg.encL) ∧ Below w.heap.size w w' := by
    go_enter Tryz.func51, Tryz.ntmps51
    go_wp2_with fail
    refine h1.mono ?_
    rintro e w1 ⟨v, rfl, ho, hb⟩
    have HO := Lib.hid ho; have HBB := Lib.hid hb
    clear ho hb
    go_wp2
    go_ret
    exact ⟨v, rfl, HO.out, HBB.out⟩
  clear h1
  go_enter Tryz.func31, Tryz.ntmps31
  go_wp2_with fail
  refine h2.mono ?_
  rintro e w1 ⟨v, rfl, ho, hb⟩
  have HO := Lib.hid ho; have HBB := Lib.hid hb
  clear ho hb
  go_wp2
  go_ret
  exact ⟨v, rfl, HO.out, HBB.out⟩
set_option maxRecDepth 100000 in
set_option maxHeartbeats 1000000 in
theorem uinst1_any {base u g h : Nat} {iv rv lv : Value} {x : Us} {s : Ps} {w : World} (H : UAt w base u g h iv rv lv x s) : Calls Tryz.prog 48 #[.pointer (some ⟨u, 0, none⟩)] w fun e w' => e = .returned (.agg #[.int .i64 x.i0, .int .i64 x.i1]) ∧ Below w.heap.size w w' := by
  obtain ⟨R, hR⟩ : ∃ R, R = w.heap.size := ⟨_, rfl⟩
  obtain ⟨W, hW⟩ : ∃ W, W = w.alloc (.cells #[.int .i64 0, .int .i64 0] 59) := ⟨_, rfl⟩
  have HW := Lib.hid hW
  have hb : Below w.heap.size w W := by rw [hW]; exact (Below.refl _ w).alloc (Nat.le_refl _) _
  have HBW := Lib.hid hb
  have HU := Lib.hid (H.below hb)
  have HR : Hid (W.heap[R]? = some (.cells #[.int .i64 0, .int .i64 0] 59 (0, 0))) := Lib.hid (by rw [hW, hR]; exact heap_alloc_new w _)
  have hwR : w.heap.size ≤ R := by omega
  have hRW : R < W.heap.size := (Array.getElem?_eq_some_iff.1 HR.out).1
  clear hW hb H
  go_enter Tryz.func48, Tryz.ntmps48
  go_upto_region 1 with (fail)
  rw [← HW.out, ← hR]
  clear hR HW
  have hu := HU.out.hu
  have u0 : W.cell? ⟨u, 0, none⟩ = some (.int .i64 x.task) := box_at hu rfl
  have u1 : W.cell? ⟨u, 1, none⟩ = some (.pointer (some ⟨g, 0, none⟩)) := box_at hu rfl
  have u2 : W.cell? ⟨u, 2, none⟩ = some (_) := box_at hu rfl
  have u3 : W.cell? ⟨u, 3, none⟩ = some (.int .i64 x.num) := box_at hu rfl
  have u4 : W.cell? ⟨u, 4, none⟩ = some (.int .i64 x.att) := box_at hu rfl
  have u5 : W.cell? ⟨u, 5, none⟩ = some (.int .i64 x.i0) := box_at hu rfl
  have u6 : W.cell? ⟨u, 6, none⟩ = some (.int .i64 x.i1) := box_at hu rfl
  have u7 : W.cell? ⟨u, 7, none⟩ = some (.int .i64 x.gr) := box_at hu rfl
  have u8 : W.cell? ⟨u, 8, none⟩ = some (.bool x.down) := box_at hu rfl
  have u9 : W.cell? ⟨u, 9, none⟩ = some (.int .i64 x.lost) := box_at hu rfl
  clear hu
  have hb1 := Below.refl W.heap.size W
  have HR1 := Lib.hid ((hb1.block R hRW).trans HR.out)
  have HB1 := Lib.hid (HBW.out.trans (hb1.mono HBW.out.size))
  have r0 := box_at HR1.out (j := 0) rfl
  have r1 := box_at HR1.out (j := 1) rfl
  have q0 := box_free HR1.out 0
  have q1 := box_free HR1.out 1
  clear hb1
  go_wp2
  obtain ⟨hX, hK⟩ := puts_at [(0, .int .i64 x.i0), (1, .int .i64 x.i1)] HR1.out
  refine bodyPost_ret (results_c rfl _ _ _ _ _ _ _ rfl hX Tryz.underlying59 rfl (by kernel_rfl)) rfl ?_
  exact ⟨rfl, HB1.out.trans (hK.below HB1.out.size (fun f hf => by rw [List.mem_singleton.1 hf]; omega))⟩
set_option maxRecDepth 100000 in
set_option maxHeartbeats 1000000 in
theorem uinst2_any {base u g h : Nat} {iv rv lv : Value} {x : Us} {s : Ps} {w : World} (H : UAt w base u g h iv rv lv x s) : Calls Tryz.prog 47 #[.pointer (some ⟨u, 0, none⟩), .func (.func 48) #[] #[]] w fun e w' => e = .returned (.agg #[.int .i64 x.i0, .int .i64 x.i1]) ∧ Below w.heap.size w w' := by
  obtain ⟨R, hR⟩ : ∃ R, R = w.heap.size := ⟨_, rfl⟩
  obtain ⟨W, hW⟩ : ∃ W, W = w.alloc (.cells #[.int .i64 0, .int .i64 0] 59) := ⟨_, rfl⟩
  have HW := Lib.hid hW
  have hb : Below w.heap.size w W := by rw [hW]; exact (Below.refl _ w).alloc (Nat.le_refl _) _
  have HBW := Lib.hid hb
  have HU := Lib.hid (H.below hb)
  have HR : Hid (W.heap[R]? = some (.cells #[.int .i64 0, .int .i64 0] 59 (0, 0))) := Lib.hid (by rw [hW, hR]; exact heap_alloc_new w _)
  have hwR : w.heap.size ≤ R := by omega
  have hRW : R < W.heap.size := (Array.getElem?_eq_some_iff.1 HR.out).1
  clear hW hb H
  go_enter Tryz.func47, Tryz.ntmps47
  go_upto_region 1 with (fail)
  rw [← HW.out, ← hR]
  clear hR HW
  go_wp2_with fail
  refine (uinst1_any HU.out).mono ?_
  rintro e w1 ⟨rfl, hb1⟩
  have HR1 := Lib.hid ((hb1.block R hRW).trans HR.out)
  have HB1 := Lib.hid (HBW.out.trans (hb1.mono HBW.out.size))
  have r0 := box_at HR1.out (j := 0) rfl
  have r1 := box_at HR1.out (j := 1) rfl
  have q0 := box_free HR1.out 0
  have q1 := box_free HR1.out 1
  clear hb1
  go_wp2
  obtain ⟨hX, hK⟩ := puts_at [(0, .int .i64 x.i0), (1, .int .i64 x.i1)] HR1.out
  refine bodyPost_ret (results_c rfl _ _ _ _ _ _ _ rfl hX Tryz.underlying59 rfl (by kernel_rfl)) rfl ?_
  exact ⟨rfl, HB1.out.trans (hK.below HB1.out.size (fun f hf => by rw [List.mem_singleton.1 hf]; omega))⟩
set_option maxRecDepth 100000 in
set_option maxHeartbeats 1000000 in
theorem uinst_any {base u g h : Nat} {iv rv lv : Value} {x : Us} {s : Ps} {w : World} (H : UAt w base u g h iv rv lv x s) : Calls Tryz.prog 20 #[.pointer (some ⟨u, 0, none⟩)] w fun e w' => e = .returned (.agg #[.int .i64 x.i0, .int .i64 x.i1]) ∧ Below w.heap.size w w' := by
  obtain ⟨R, hR⟩ : ∃ R, R = w.heap.size := ⟨_, rfl⟩
  obtain ⟨W, hW⟩ : ∃ W, W = w.alloc (.cells #[.int .i64 0, .int .i64 0] 59) := ⟨_, rfl⟩
  have HW := Lib.hid hW
  have hb : Below w.heap.size w W := by rw [hW]; exact (Below.refl _ w).alloc (Nat.le_refl _) _
  have HBW := Lib.hid hb
  have HU := Lib.hid (H.below hb)
  have HR : Hid (W.heap[R]? = some (.cells #[.int .i64 0, .int .i64 0] 59 (0, 0))) := Lib.hid (by rw [hW, hR]; exact heap_alloc_new w _)
  have hwR : w.heap.size ≤ R := by omega
  have hRW : R < W.heap.size := (Array.getElem?_eq_some_iff.1 HR.out).1
  clear hW hb H
  go_enter Tryz.func20, Tryz.ntmps20
  go_upto_region 1 with (fail)
  rw [← HW.out, ← hR]
  clear hR HW
  go_wp2_with fail
  refine (uinst2_any HU.out).mono ?_
  rintro e w1 ⟨rfl, hb1⟩
  have HR1 := Lib.hid ((hb1.block R hRW).trans HR.out)
  have HB1 := Lib.hid (HBW.out.trans (hb1.mono HBW.out.size))
  have r0 := box_at HR1.out (j := 0) rfl
  have r1 := box_at HR1.out (j := 1) rfl
  have q0 := box_free HR1.out 0
  have q1 := box_free HR1.out 1
  clear hb1
  go_wp2
  obtain ⟨hX, hK⟩ := puts_at [(0, .int .i64 x.i0), (1, .int .i64 x.i1)] HR1.out
  refine bodyPost_ret (results_c rfl _ _ _ _ _ _ _ rfl hX Tryz.underlying59 rfl (by kernel_rfl)) rfl ?_
  exact ⟨rfl, HB1.out.trans (hK.below HB1.out.size (fun f hf => by rw [List.mem_singleton.1 hf]; omega))⟩
end Go.Proofs.YtplhmoapcicncaaGreat
