/- Revive: readers; the table of forms -/
import Derived.Test.YthmnhpakgjnngaaGreatDoorYo
import Derived.LaidMore
import Derived.OpenShut
import Derived.Stop.Joined
import Derived.ProofKit
namespace Go.Rv
open Go Go.RowKit Go.Bs Go.Cl Go.Rw Go.Rd Go.ChangeShapes Go.WideShapes
variable {H : Type} {enc : TypeId × Value → H}
theorem four_of {α : Type} {l : List α} (h : l.length = 4) : ∃ a b c d, l = [a, b, c, d] := by
  match l, h with
  | [a, b, c, d], _ => exact ⟨a, b, c, d, rfl⟩
theorem wf_u8n {n : Int} (h : (Lit.int .u8 n).wf = true) : ∃ x : Nat, n = x ∧ x < 256 := by
  simp [Lit.wf, IntKind.min, IntKind.max, IntKind.signed, IntKind.bits] at h
  exact ⟨n.toNat, by omega, by omega⟩
end Go.Rv
namespace Go.Proofs.YthmnhpakgjnngaaGreatDoor
open Go.RowKit Go.Bs Go.Cl Go.Rw Go.Dt Go.Rv Go.Rd Go.ChangeShapes Go.WideShapes Go.ChangeAt
theorem Tryz.own : ownKnob Tryz.prog.godebug = none := by kernel_rfl
theorem Tryz.laidOut : laidOutB Tryz.prog = true := by kernel_rfl
theorem Tryz.cellsF : Tryz.prog.cellsOf 116 = 4 := by kernel_rfl
theorem Tryz.cellsI : Tryz.prog.cellsOf 3 = 1 := by kernel_rfl
theorem Tryz.cellsS : Tryz.prog.cellsOf 9 = 1 := by kernel_rfl
theorem Tryz.cellsB : Tryz.prog.cellsOf 5 = 1 := by kernel_rfl
theorem form_cells {H : Type} {enc : TypeId × Value → H} {W : World} {sp : Nat → Bool} {held : Bool} {fuel : Nat} {cs : List Value} {x : DataW H × List MemPlace} (h : DataW.trod enc Tryz.prog W 0 sp held fuel 116 cs = some x) (a b d : Int) (s : ByteArray)
    (hx : x.1 = .agg [.lit (.int .i64 a), .lit (.int .i64 b), .lit (.string s.data.toList), .lit (.int .i64 d)]) : cs = [.int .i64 a, .int .i64 b, .string s, .int .i64 d] := by
  obtain ⟨xs, n, rfl, rfl, hl, hxs, hf⟩ := DataW.trod_struct Tryz.underlying116 h
  rw [Tryz.cellsF] at hl
  obtain ⟨c0, c1, c2, c3, rfl⟩ := four_of hl
  obtain ⟨x0, x1, x2, x3, rfl⟩ := four_of (show xs.length = 4 from hxs)
  have g0 : DataW.trod enc Tryz.prog W 0 sp held n 3 (([c0, c1, c2, c3].drop 0).take (Tryz.prog.cellsOf 3)) = [x0, x1, x2, x3][0]? := hf 0 _ rfl
  have g1 : DataW.trod enc Tryz.prog W 0 sp held n 3 (([c0, c1, c2, c3].drop 1).take (Tryz.prog.cellsOf 3)) = [x0, x1, x2, x3][1]? := hf 1 _ rfl
  have g2 : DataW.trod enc Tryz.prog W 0 sp held n 9 (([c0, c1, c2, c3].drop 2).take (Tryz.prog.cellsOf 9)) = [x0, x1, x2, x3][2]? := hf 2 _ rfl
  have g3 : DataW.trod enc Tryz.prog W 0 sp held n 3 (([c0, c1, c2, c3].drop 3).take (Tryz.prog.cellsOf 3)) = [x0, x1, x2, x3][3]? := hf 3 _ rfl

  rw [Tryz.cellsI] at g0 g1 g3
  rw [Tryz.cellsS] at g2
  obtain ⟨n0, e0, rfl, _⟩ := DataW.trod_int Tryz.underlying3 (show DataW.trod _ _ _ _ _ _ _ _ [c0] = some x0 from g0)
  obtain ⟨n1, e1, rfl, _⟩ := DataW.trod_int Tryz.underlying3 (show DataW.trod _ _ _ _ _ _ _ _ [c1] = some x1 from g1)
  obtain ⟨s2, e2, rfl, _⟩ := DataW.trod_string Tryz.underlying9 (show DataW.trod _ _ _ _ _ _ _ _ [c2] = some x2 from g2)
  obtain ⟨n3, e3, rfl, _⟩ := DataW.trod_int Tryz.underlying3 (show DataW.trod _ _ _ _ _ _ _ _ [c3] = some x3 from g3)
  cases e0; cases e1; cases e2; cases e3
  simp at hx
  obtain ⟨rfl, rfl, hs, rfl⟩ := hx
  have : s2 = s := by
    cases s2; cases s
    simpa using hs
  subst this
  rfl
theorem gForms : Tryz.prog.globalNamed "ratoon/message.forms" = some 0 := by kernel_rfl
theorem tForms : (Tryz.prog.globals[0]?).map (·.type) = some 117 := by kernel_rfl
def fmD {H : Type} (f : Int × Int × ByteArray × Int) : DataW H := .agg [.lit (.int .i64 f.1), .lit (.int .i64 f.2.1), .lit (.string f.2.2.1.data.toList), .lit (.int .i64 f.2.2.2)]
theorem laid_forms {H : Type} : (Rows.laid_ratoon_message_forms : DataW H) = .agg (formL.map fmD) := by kernel_rfl
theorem formL_at {k : Nat} (h : k < 28) : formL[k]? = some (fmAt k) := by
  have h2 : ∀ k, k < 28 → k < formL.length := by decide
  simp [fmAt, h2 k h]
theorem forms_of_laid {W : World} (h : laidMetH Tryz.prog [("ratoon/message.forms", Rows.laid_ratoon_message_forms)] W) : FormsAt W := by
  rw [MakeChecks.laidMetH_plain _ _ _ (by kernel_rfl)] at h
  obtain ⟨ps, ⟨g0, t0, cs0, f0, p0, q0, hg0, ht0, hv0, hd0, _, _⟩, _, _⟩ := h
  obtain rfl := Option.some.inj (gForms.symm.trans hg0)
  obtain rfl := Option.some.inj (tForms.symm.trans ht0)
  obtain ⟨xs, m, rfl, hx1, hlen, hn, hel⟩ := DataW.trod_array Tryz.underlying117 hd0
  rw [Prod.mk.injEq, laid_forms, DataW.agg.injEq] at hx1
  intro k hk
  have hk2 := hel k hk
  rw [Tryz.cellsF] at hk2
  have hxk : k < xs.length := by omega
  rw [List.getElem?_eq_getElem hxk] at hk2
  have hd : (xs[k]).1 = fmD (fmAt k) := by
    have e1 : (xs.map (·.1))[k]? = (formL.map fmD)[k]? := by rw [hx1.1]
    rw [List.getElem?_map, List.getElem?_map, formL_at hk, List.getElem?_eq_getElem hxk] at e1
    simpa using e1
  have hc := form_cells hk2 _ _ _ _ hd
  have hget : ∀ j v, [Value.int .i64 (fmAt k).1, .int .i64 (fmAt k).2.1, .string (fmAt k).2.2.1, .int .i64 (fmAt k).2.2.2][j]? = some v → W.cell? ⟨0, k * 4 + j, none⟩ = some v := fun j v hj => by
    have hj4 : j < 4 := (List.getElem?_eq_some_iff.1 hj).1
    rw [← hc, List.getElem?_take, if_pos hj4, List.getElem?_drop] at hj
    have := World.var?_cell hg0 hv0 (k * 4 + j)
    rw [this]
    simpa using hj
  exact ⟨hget 0 _ rfl, hget 1 _ rfl, hget 2 _ rfl, hget 3 _ rfl⟩
theorem Tryz.cellsMg : Tryz.prog.cellsOf 31 = 9 := by kernel_rfl
theorem Tryz.cellsYb : Tryz.prog.cellsOf 28 = 1 := by kernel_rfl
theorem Tryz.cellsIs : Tryz.prog.cellsOf 22 = 1 := by kernel_rfl
theorem Tryz.cellsHl : Tryz.prog.cellsOf 25 = 1 := by kernel_rfl
theorem Tryz.cellsHi : Tryz.prog.cellsOf 74 = 3 := by kernel_rfl
theorem Tryz.cellsSt : Tryz.prog.cellsOf 27 = 3 := by kernel_rfl
theorem wf_i64m {n : Int} (h : (Lit.int .i64 n).wf = true) : Rv.fits n := by
  simp [Lit.wf, IntKind.min, IntKind.max, IntKind.signed, IntKind.bits] at h
  unfold Rv.fits; omega
set_option maxRecDepth 100000 in
theorem read_img {H : Type} {enc : TypeId × Value → H} {W : World} {base : Nat} {v : Value} {d : DataW H} {p : List MemPlace} (hv : Value.okWide Tryz.prog W .any base 28 v)
    (h : DataW.Trod enc Tryz.prog W 0 (fun _ => true) true 28 v d p) : ∃ l : List UInt8, Bytes [] W v l := read_bytes Tryz.cellsB Tryz.underlying28 Tryz.underlying5 hv h
set_option maxRecDepth 100000 in
set_option maxHeartbeats 1000000 in
theorem read_msg {H : Type} {enc : TypeId × Value → H} {W : World} {base : Nat} {v : Value} {d : DataW H} {p : List MemPlace} (hv : Value.okWide Tryz.prog W .any base 31 v) (h : DataW.Trod enc Tryz.prog W 0 (fun _ => true) true 31 v d p) :
    ∃ (m : Ms) (da : Option Addr) (dn dc : Nat), v = .agg (msgC m (.slice da dn dc)) ∧ Rv.fits m.kind := by
  obtain ⟨cs, rfl, hs⟩ := okWide_struct Tryz.underlying31 hv
  rw [Tryz.cellsMg] at hs
  obtain ⟨l⟩ := cs
  match l, hs with
  | [c0, c1, c2, c3, c4, c5, c6, c7, c8], _ =>
    obtain ⟨fuel, hf⟩ := h
    have hf : DataW.trod enc Tryz.prog W 0 (fun _ => true) true fuel 31 [c0, c1, c2, c3, c4, c5, c6, c7, c8] = some (d, p) := hf
    have g0 := Rl.trod_leaf (e := 3) (o := 0) [0] (by kernel_rfl) (by kernel_rfl) (by rw [Tryz.cellsMg]; exact Nat.le_of_ble_eq_true rfl) hf
    rw [Tryz.cellsI] at g0
    obtain ⟨_, _, g0, _⟩ := g0
    obtain ⟨k0, e0, _, z0⟩ := DataW.trod_int Tryz.underlying3 g0
    simp at e0
    have g1 := Rl.trod_leaf (e := 3) (o := 1) [1] (by kernel_rfl) (by kernel_rfl) (by rw [Tryz.cellsMg]; exact Nat.le_of_ble_eq_true rfl) hf
    rw [Tryz.cellsI] at g1
    obtain ⟨_, _, g1, _⟩ := g1
    obtain ⟨k1, e1, _, z1⟩ := DataW.trod_int Tryz.underlying3 g1
    simp at e1
    have g2 := Rl.trod_leaf (e := 3) (o := 2) [2] (by kernel_rfl) (by kernel_rfl) (by rw [Tryz.cellsMg]; exact Nat.le_of_ble_eq_true rfl) hf
    rw [Tryz.cellsI] at g2
    obtain ⟨_, _, g2, _⟩ := g2
    obtain ⟨k2, e2, _, z2⟩ := DataW.trod_int Tryz.underlying3 g2
    simp at e2
    have g3 := Rl.trod_leaf (e := 3) (o := 3) [3] (by kernel_rfl) (by kernel_rfl) (by rw [Tryz.cellsMg]; exact Nat.le_of_ble_eq_true rfl) hf
    rw [Tryz.cellsI] at g3
    obtain ⟨_, _, g3, _⟩ := g3
    obtain ⟨k3, e3, _, z3⟩ := DataW.trod_int Tryz.underlying3 g3
    simp at e3
    have g4 := Rl.trod_leaf (e := 3) (o := 4) [4, 0] (by kernel_rfl) (by kernel_rfl) (by rw [Tryz.cellsMg]; exact Nat.le_of_ble_eq_true rfl) hf
    rw [Tryz.cellsI] at g4
    obtain ⟨_, _, g4, _⟩ := g4
    obtain ⟨k4, e4, _, z4⟩ := DataW.trod_int Tryz.underlying3 g4
    simp at e4
    have g5 := Rl.trod_leaf (e := 3) (o := 5) [4, 1] (by kernel_rfl) (by kernel_rfl) (by rw [Tryz.cellsMg]; exact Nat.le_of_ble_eq_true rfl) hf
    rw [Tryz.cellsI] at g5
    obtain ⟨_, _, g5, _⟩ := g5
    obtain ⟨k5, e5, _, z5⟩ := DataW.trod_int Tryz.underlying3 g5
    simp at e5
    have g6 := Rl.trod_leaf (e := 3) (o := 6) [4, 2] (by kernel_rfl) (by kernel_rfl) (by rw [Tryz.cellsMg]; exact Nat.le_of_ble_eq_true rfl) hf
    rw [Tryz.cellsI] at g6
    obtain ⟨_, _, g6, _⟩ := g6
    obtain ⟨k6, e6, _, z6⟩ := DataW.trod_int Tryz.underlying3 g6
    simp at e6
    have g7 := Rl.trod_leaf (e := 3) (o := 7) [4, 3] (by kernel_rfl) (by kernel_rfl) (by rw [Tryz.cellsMg]; exact Nat.le_of_ble_eq_true rfl) hf
    rw [Tryz.cellsI] at g7
    obtain ⟨_, _, g7, _⟩ := g7
    obtain ⟨k7, e7, _, z7⟩ := DataW.trod_int Tryz.underlying3 g7
    simp at e7
    have g8 := Rl.trod_leaf (e := 28) (o := 8) [5] (by kernel_rfl) (by kernel_rfl) (by rw [Tryz.cellsMg]; exact Nat.le_of_ble_eq_true rfl) hf
    rw [Tryz.cellsYb] at g8
    obtain ⟨_, _, g8, _⟩ := g8
    obtain ⟨u, b, e8, hb⟩ := read_bytes_cs (by kernel_rfl) Tryz.underlying28 Tryz.underlying5 g8
    simp at e8
    obtain ⟨da, dc, rfl⟩ := Raw.slice hb
    exact ⟨⟨k0, k1, k2, k3, k4, k5, k6, k7⟩, da, b.length, dc, by simp [msgC, e0, e1, e2, e3, e4, e5, e6, e7, e8], wf_i64m z2⟩
set_option maxRecDepth 100000 in
theorem hist_of {H : Type} {enc : TypeId × Value → H} {W : World} (fuel : Nat) (cs : List Value) (x : DataW H × List MemPlace) (hf : DataW.trod enc Tryz.prog W 0 (fun _ => true) true fuel 74 cs = some x) : ∃ y : Hs, cs = encH y ∧ True := by
  obtain ⟨d, p⟩ := x
  obtain ⟨_, _, _, _, hl, _⟩ := DataW.trod_struct Tryz.underlying74 hf
  rw [Tryz.cellsHi] at hl
  match cs, hl with
  | [c0, c1, c2], _ =>
    have g0 := Rl.trod_leaf (e := 3) (o := 0) [0] (by kernel_rfl) (by kernel_rfl) (by rw [Tryz.cellsHi]; exact Nat.le_of_ble_eq_true rfl) hf
    rw [Tryz.cellsI] at g0
    obtain ⟨_, _, g0, _⟩ := g0
    obtain ⟨k0, e0, _, z0⟩ := DataW.trod_int Tryz.underlying3 g0
    simp at e0
    have g1 := Rl.trod_leaf (e := 3) (o := 1) [1] (by kernel_rfl) (by kernel_rfl) (by rw [Tryz.cellsHi]; exact Nat.le_of_ble_eq_true rfl) hf
    rw [Tryz.cellsI] at g1
    obtain ⟨_, _, g1, _⟩ := g1
    obtain ⟨k1, e1, _, z1⟩ := DataW.trod_int Tryz.underlying3 g1
    simp at e1
    have g2 := Rl.trod_leaf (e := 3) (o := 2) [2] (by kernel_rfl) (by kernel_rfl) (by rw [Tryz.cellsHi]; exact Nat.le_of_ble_eq_true rfl) hf
    rw [Tryz.cellsI] at g2
    obtain ⟨_, _, g2, _⟩ := g2
    obtain ⟨k2, e2, _, z2⟩ := DataW.trod_int Tryz.underlying3 g2
    simp at e2
    exact ⟨⟨k0, k1, k2⟩, by simp [encH, e0, e1, e2], trivial⟩
set_option maxRecDepth 100000 in
set_option maxHeartbeats 1000000 in
theorem read_state {H : Type} {enc : TypeId × Value → H} {W : World} {base : Nat} {v : Value} {d : DataW H} {p : List MemPlace} (hv : Value.okWide Tryz.prog W .any base 27 v) (h : DataW.Trod enc Tryz.prog W 0 (fun _ => true) true 27 v d p) :
    ∃ x : Sv, SvV W v x := by
  obtain ⟨cs, rfl, hs⟩ := okWide_struct Tryz.underlying27 hv
  rw [Tryz.cellsSt] at hs
  obtain ⟨l⟩ := cs
  match l, hs with
  | [c0, c1, c2], _ =>
    obtain ⟨fuel, hf⟩ := h
    have hf : DataW.trod enc Tryz.prog W 0 (fun _ => true) true fuel 27 [c0, c1, c2] = some (d, p) := hf
    have g0 := Rl.trod_leaf (e := 3) (o := 0) [0, 0] (by kernel_rfl) (by kernel_rfl) (by rw [Tryz.cellsSt]; exact Nat.le_of_ble_eq_true rfl) hf
    rw [Tryz.cellsI] at g0
    obtain ⟨_, _, g0, _⟩ := g0
    obtain ⟨k0, e0, _, z0⟩ := DataW.trod_int Tryz.underlying3 g0
    simp at e0
    have g1 := Rl.trod_leaf (e := 22) (o := 1) [0, 1] (by kernel_rfl) (by kernel_rfl) (by rw [Tryz.cellsSt]; exact Nat.le_of_ble_eq_true rfl) hf
    rw [Tryz.cellsIs] at g1
    obtain ⟨_, _, g1, _⟩ := g1
    obtain ⟨u1, l1, e1, hb1, _⟩ := read_cs (rd := encT) (Rl := fun _ => True) Tryz.cellsI (by omega) encT_len Tryz.underlying22 (fun y _ u hu => by simp [encT] at hu; rw [hu]; rfl) (fun fuel cs x hx => by
      have ⟨n, hn⟩ := DataW.trod_int Tryz.underlying3 hx
      exact ⟨n, hn.1, trivial⟩) g1
    simp at e1
    rw [encT_map] at hb1
    have g2 := Rl.trod_leaf (e := 25) (o := 2) [1] (by kernel_rfl) (by kernel_rfl) (by rw [Tryz.cellsSt]; exact Nat.le_of_ble_eq_true rfl) hf
    rw [Tryz.cellsHl] at g2
    obtain ⟨_, _, g2, _⟩ := g2
    obtain ⟨u2, l2, e2, hb2, _⟩ := read_cs (rd := encH) (Rl := fun _ => True) Tryz.cellsHi (by omega) encH_len Tryz.underlying25 (fun y _ u hu => by simp [encH] at hu; rcases hu with rfl | rfl | rfl <;> rfl) hist_of g2
    simp at e2
    exact ⟨⟨k0, l1, l2⟩, u1, u2, by rw [e0, e1, e2], hb1, hb2⟩
end Go.Proofs.YthmnhpakgjnngaaGreatDoor
