/- Revive: Handle -/
import Derived.Test.YthmnhpakgjnngaaGreatDoorVi
import Derived.Maps.OwnSet
namespace Go.Rv
open Go Go.RowKit Go.Bs Go.Cl Go.Rw Go.Dt Go.Maps
/-- how a function's value reads in a map: as itself -/
def selfR (v : Value) : Option (DataW Value × List MemPlace) := some (.held v, [])
def fits (n : Int) : Prop := -9223372036854775808 ≤ n ∧ n ≤ 9223372036854775807
/-- insert, of a map literal -/
theorem wpList_insert_own {H : Type} {P : Program} (w : World) {ops : Array Oper} {rest : List Oper} {o : Oper} {a : Act} {Q : Exit → Act → World → Prop}
    (hg : o.guard = none) (m x v : Operand) (t : TypeId) (hop : o.op = Op.insert t m x v)
    (k e : TypeId) (K : Keyed P k) (ht : P.underlying t = some (.map k e)) (R : Value → Option (DataW H × List MemPlace)) (b n : Nat) (D : DataW H)
    (hm : a.eval m = .map (some b)) (hown : w.ownsMap P k R b n D) (hn : n < maxLen) (key val : Value) (kl : Lit) (hx : a.eval x = key) (hv : a.eval v = val) (hkey : keyOf P k key = some kl)
    (d : DataW H) (ps : List MemPlace) (hval : R val = some (d, ps))
    (hK : ∀ w', w'.ownsMap P k R b (n + 1) (D.put kl d) → w.grownBy w' (some b) → wpList P ops Q rest (a.put o.dst undef) w') :
    wpList P ops Q (o :: rest) a w := by
  refine wpList_plain hg fun K' hK' => ?_
  obtain ⟨w', hrun, r1, r2⟩ := hown.update K ht hn hkey hval
  unfold Oper.wp
  simp [execOp, hop, hm, hx, hv, hrun, Result.andThen]
  exact hK' _ _ (hK w' r1 r2)
end Go.Rv
namespace Go.Proofs.YthmnhpakgjnngaaGreatDoor
open Go.RowKit Go.Bs Go.Cl Go.Rw Go.Dt Go.Rv Go.Maps
/-- what Handle does with a valid state -/
def handleV (x : Sv) (m : Ms) (dl : Nat) : Option (Sv × List Ef) :=
  if (m.dst == 1) && permP m dl then (if m.kind = 5 then failedV x m else if m.kind = 4 then (if m.a0 = 1 then some (alarmV x) else none) else if m.kind = 7 then some (pongV x m.src m.a0, []) else none) else none
/-- a state's value -/
def SvV (w : World) (v : Value) (x : Sv) : Prop := ∃ wv hv, v = .agg #[.int .i64 x.r, wv, hv] ∧ Ints [] w wv x.wt ∧ SlH w hv x.hs
theorem SvV.below {w w' : World} {v : Value} {x : Sv} (h : SvV w v x) (hb : Below w.heap.size w w') : SvV w' v x := by
  obtain ⟨wv, hv, rfl, h1, h2⟩ := h
  exact ⟨wv, hv, rfl, Raw.below h1 hb, Raw.below h2 hb⟩
def SvN (F : List Nat) (w : World) (v : Value) (x : Sv) : Prop := ∃ wv hv, v = .agg #[.int .i64 x.r, wv, hv] ∧ Ints F w wv x.wt ∧ Raw F 3 w hv x.hs.length (x.hs.flatMap encH)
theorem SvN.toV {F : List Nat} {w : World} {v : Value} {x : Sv} (h : SvN F w v x) : SvV w v x := by
  obtain ⟨wv, hv, rfl, h1, h2⟩ := h
  exact ⟨wv, hv, rfl, Raw.to_nil h1, Raw.to_nil h2⟩
def RetH (r : Option (Sv × List Ef)) (er : Int) (w : World) (e : Ending) (w' : World) : Prop := Below w.heap.size w w' ∧ match r with
  | none => e = .returned (.tuple #[.agg #[.int .i64 0, .slice none 0 0, .slice none 0 0], .slice none 0 0, .int .i64 er])
  | some (x, es) => ∃ sv ev, e = .returned (.tuple #[sv, ev, .int .i64 0]) ∧ SlX (List.range w.heap.size) w' ev es ∧ SvN (List.range w.heap.size) w' sv x
theorem heap_set3' {w : World} {g : Nat} {x y z : Value} {t : TypeId} (h : w.heap[g]? = some (.cells #[x, y, z] t (0, 0))) (a b c : Value) : (((w.setCell ⟨g, 0, none⟩ a).setCell ⟨g, 1, none⟩ b).setCell ⟨g, 2, none⟩ c).heap[g]? = some (.cells #[a, b, c] t (0, 0)) := heap_set3 h a b c
theorem keep_set3 (w : World) (g : Nat) (a b c : Value) : Keep [g] w (((w.setCell ⟨g, 0, none⟩ a).setCell ⟨g, 1, none⟩ b).setCell ⟨g, 2, none⟩ c) :=
  (((Keep.refl [g] w).setCell (by simp) _).setCell (by simp) _).setCell (by simp) _
set_option maxRecDepth 100000 in
set_option maxHeartbeats 4000000 in
theorem handle_bad (x : Sv) (wv hv : Value) (m : Ms) (da : Option Addr) (dn dc : Nat) (w : World) (hl1 : x.wt.length ≤ 1000) (hl2 : x.hs.length ≤ 1000) (h1 : Ints [] w wv x.wt) (h2 : SlH w hv x.hs) (hbad : validV x = false) :
    Calls Tryz.prog 16 #[.agg #[.int .i64 x.r, wv, hv], .agg (msgC m (.slice da dn dc))] w (RetH none 1 w) := by
  obtain ⟨ms, md, mk, mq, m0, m1, m2, m3⟩ := m
  obtain ⟨wa, wc, rfl⟩ := Raw.slice h1
  obtain ⟨ha, hc, rfl⟩ := Raw.slice h2
  have H1 := Lib.hid h1; have H2 := Lib.hid h2; have HV := Lib.hid hbad
  clear h1 h2 hbad
  unfold msgC
  dsimp only
  obtain ⟨b1, hb1⟩ : ∃ X, X = w.alloc (.cells #[.int .i64 x.r, .slice wa x.wt.length wc, .slice ha x.hs.length hc] 41) := ⟨_, rfl⟩
  obtain ⟨b2, hb2⟩ : ∃ X, X = b1.alloc (.cells #[.int .i64 ms, .int .i64 md, .int .i64 mk, .int .i64 mq, .int .i64 m0, .int .i64 m1, .int .i64 m2, .int .i64 m3, .slice da dn dc] 31) := ⟨_, rfl⟩
  obtain ⟨b3, hb3⟩ : ∃ X, X = b2.alloc (.cells #[.int .i64 0, .slice none 0 0, .slice none 0 0] 41) := ⟨_, rfl⟩
  have z1 : b1.heap.size = w.heap.size + 1 := by rw [hb1]; simp
  have z2 : b2.heap.size = w.heap.size + 1 + 1 := by rw [hb2]; simp [z1]
  have z3 : b3.heap.size = w.heap.size + 1 + 1 + 1 := by rw [hb3]; simp [z2]
  have e1 : Below w.heap.size w b1 := by rw [hb1]; exact (Below.refl _ w).alloc (Nat.le_refl _) _
  have n1 : b1.heap[w.heap.size]? = some (.cells #[.int .i64 x.r, .slice wa x.wt.length wc, .slice ha x.hs.length hc] 41 (0, 0)) := by rw [hb1]; exact heap_alloc_new w _
  have e2 : Below b1.heap.size b1 b2 := by rw [hb2]; exact (Below.refl _ b1).alloc (Nat.le_refl _) _
  have n2 : b2.heap[w.heap.size + 1]? = some (.cells #[.int .i64 ms, .int .i64 md, .int .i64 mk, .int .i64 mq, .int .i64 m0, .int .i64 m1, .int .i64 m2, .int .i64 m3, .slice da dn dc] 31 (0, 0)) := by rw [hb2, ← z1]; exact heap_alloc_new b1 _
  have e3 : Below b2.heap.size b2 b3 := by rw [hb3]; exact (Below.refl _ b2).alloc (Nat.le_refl _) _
  have n3 : b3.heap[w.heap.size + 1 + 1]? = some (.cells #[.int .i64 0, .slice none 0 0, .slice none 0 0] 41 (0, 0)) := by rw [hb3, ← z2]; exact heap_alloc_new b2 _
  have t1 := e1
  have t2 := t1.trans (e2.mono t1.size)
  have t3 := t2.trans (e3.mono t2.size)
  have HS := Lib.hid ((e3.block _ (by omega)).trans ((e2.block _ (by omega)).trans (n1)))
  have HM := Lib.hid ((e3.block _ (by omega)).trans (n2))
  have HR := Lib.hid (n3)
  have HB := Lib.hid t3
  have HW1 := Lib.hid hb1
  have HW2 := Lib.hid hb2
  have HW3 := Lib.hid hb3
  clear hb1 e1 n1 t1 hb2 e2 n2 t2 hb3 e3 n3 t3
  go_enter Tryz.func16, Tryz.ntmps16
  go_upto_region 1 with (fail)
  rw [← HW1.out, ← HW2.out, ← HW3.out]
  obtain ⟨S, hS⟩ : ∃ A, A = w.heap.size := ⟨_, rfl⟩
  obtain ⟨M, hM⟩ : ∃ A, A = w.heap.size + 1 := ⟨_, rfl⟩
  obtain ⟨R, hR⟩ : ∃ A, A = w.heap.size + 1 + 1 := ⟨_, rfl⟩
  rw [← hR, ← hM, ← hS]
  rw [← hS] at HS
  rw [← hM] at HM
  rw [← hR] at HR
  have qS : w.heap.size ≤ S := by omega
  have qM : w.heap.size ≤ M := by omega
  have qR : w.heap.size ≤ R := by omega
  have dS : S < M := by omega
  have dM : M < R := by omega
  have hzb : R < b3.heap.size := by omega
  clear hS hM hR z1 HW1 z2 HW2 z3 HW3
  have s0 := box_at HS.out (j := 0) rfl
  have s1 := box_at HS.out (j := 1) rfl
  have s2 := box_at HS.out (j := 2) rfl
  go_wp2_with fail
  refine (valid_eq x _ _ false _ hl1 hl2 (Raw.below H1.out HB.out) (Raw.below H2.out HB.out) HV.out).mono ?_
  rintro e w4 ⟨rfl, hb4⟩
  have HR4 := Lib.hid ((hb4.block R hzb).trans HR.out)
  have HB4 := Lib.hid (HB.out.trans (hb4.mono HB.out.size))
  clear hb4 s0 s1 s2 HB HR
  have r0 := box_at HR4.out (j := 0) rfl
  have r1 := box_at HR4.out (j := 1) rfl
  have r2 := box_at HR4.out (j := 2) rfl
  have f0 := box_free HR4.out 0
  have f1 := box_free HR4.out 1
  have f2 := box_free HR4.out 2
  go_wp2
  refine bodyPost_ret (results_ctt rfl _ _ _ _ _ _ _ rfl (heap_set3 HR4.out _ _ _) Tryz.underlying41 rfl (by kernel_rfl)) rfl ?_
  exact ⟨HB4.out.trans ((keep_set3 w4 R _ _ _).below HB4.out.size (fun f hf => by rw [List.mem_singleton.1 hf]; exact qR)), rfl⟩
end Go.Proofs.YthmnhpakgjnngaaGreatDoor
