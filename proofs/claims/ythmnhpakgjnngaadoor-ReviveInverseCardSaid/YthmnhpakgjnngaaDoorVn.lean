/- Revive: readers; the table of forms -/
import Derived.Test.YthmnhpakgjnngaaDoorVm
import Derived.LaidMore
import Derived.OpenShut
import Derived.Stop.Joined
import Derived.ProofKit
namespace Go.Rv
open Go Go.RowKit Go.Bs Go.Cl Go.Rw Go.Rd Go.ChangeShapes Go.WideShapes
variable {H : Type} {enc : TypeId × Value → H}
theorem trod_array2 {P : Program} {w : World} {base : Nat} {spare : Nat → Bool} {held : Bool} {t e : TypeId} {fuel : Nat} {cs : List Value} {x : DataW H × List MemPlace} (ht : P.underlying t = some (.array 2 e)) (hce : P.cellsOf e = 1) (hct : P.cellsOf t = 2)
    (h : DataW.trod enc P w base spare held fuel t cs = some x) :
    ∃ c0 c1 y0 y1 n, cs = [c0, c1] ∧ DataW.trod enc P w base spare held n e [c0] = some y0 ∧ DataW.trod enc P w base spare held n e [c1] = some y1 := by
  cases fuel with
  | zero => simp [DataW.trod] at h
  | succ n =>
    unfold DataW.trod at h
    rw [ht] at h
    have r2 : List.range 2 = [0, 1] := rfl
    simp [r2, hce] at h
    obtain ⟨hl, h⟩ := h
    rw [hct] at hl
    obtain ⟨c0, c1, rfl⟩ : ∃ c0 c1, cs = [c0, c1] := by
      cases cs with
      | nil => simp at hl
      | cons c0 cs => cases cs with
        | nil => simp at hl
        | cons c1 cs => cases cs with
          | nil => exact ⟨c0, c1, rfl⟩
          | cons c2 cs => simp at hl
    simp at h
    cases h0 : DataW.trod enc P w base spare held n e [c0] with
    | none => simp [h0] at h
    | some y0 =>
      cases h1 : DataW.trod enc P w base spare held n e [c1] with
      | none => simp [h0, h1] at h
      | some y1 => exact ⟨c0, c1, y0, y1, n, rfl, h0, h1⟩
theorem four_of {α : Type} {l : List α} (h : l.length = 4) : ∃ a b c d, l = [a, b, c, d] := by
  match l, h with
  | [a, b, c, d], _ => exact ⟨a, b, c, d, rfl⟩
theorem wf_u8n {n : Int} (h : (Lit.int .u8 n).wf = true) : ∃ x : Nat, n = x ∧ x < 256 := by
  simp [Lit.wf, IntKind.min, IntKind.max, IntKind.signed, IntKind.bits] at h
  exact ⟨n.toNat, by omega, by omega⟩
end Go.Rv
namespace Go.Proofs.YthmnhpakgjnngaaDoor
open Go.RowKit Go.Bs Go.Cl Go.Rw Go.Dt Go.Rv Go.Rd Go.ChangeShapes Go.WideShapes Go.ChangeAt
theorem Tryd.own : ownKnob Tryd.prog.godebug = none := by kernel_rfl
theorem Tryd.laidOut : laidOutB Tryd.prog = true := by kernel_rfl
theorem Tryd.cellsF : Tryd.prog.cellsOf 95 = 4 := by kernel_rfl
theorem Tryd.cellsI : Tryd.prog.cellsOf 3 = 1 := by kernel_rfl
theorem Tryd.cellsS : Tryd.prog.cellsOf 9 = 1 := by kernel_rfl
theorem Tryd.cellsB : Tryd.prog.cellsOf 5 = 1 := by kernel_rfl
theorem Tryd.cellsR : Tryd.prog.cellsOf 32 = 2 := by kernel_rfl
theorem form_cells {H : Type} {enc : TypeId × Value → H} {W : World} {sp : Nat → Bool} {held : Bool} {fuel : Nat} {cs : List Value} {x : DataW H × List MemPlace} (h : DataW.trod enc Tryd.prog W 0 sp held fuel 95 cs = some x) (a b d : Int) (s : ByteArray)
    (hx : x.1 = .agg [.lit (.int .i64 a), .lit (.int .i64 b), .lit (.string s.data.toList), .lit (.int .i64 d)]) : cs = [.int .i64 a, .int .i64 b, .string s, .int .i64 d] := by
  obtain ⟨xs, n, rfl, rfl, hl, hxs, hf⟩ := DataW.trod_struct Tryd.underlying95 h
  rw [Tryd.cellsF] at hl
  obtain ⟨c0, c1, c2, c3, rfl⟩ := four_of hl
  obtain ⟨x0, x1, x2, x3, rfl⟩ := four_of (show xs.length = 4 from hxs)
  have g0 : DataW.trod enc Tryd.prog W 0 sp held n 3 (([c0, c1, c2, c3].drop 0).take (Tryd.prog.cellsOf 3)) = [x0, x1, x2, x3][0]? := hf 0 _ rfl
  have g1 : DataW.trod enc Tryd.prog W 0 sp held n 3 (([c0, c1, c2, c3].drop 1).take (Tryd.prog.cellsOf 3)) = [x0, x1, x2, x3][1]? := hf 1 _ rfl
  have g2 : DataW.trod enc Tryd.prog W 0 sp held n 9 (([c0, c1, c2, c3].drop 2).take (Tryd.prog.cellsOf 9)) = [x0, x1, x2, x3][2]? := hf 2 _ rfl
  have g3 : DataW.trod enc Tryd.prog W 0 sp held n 3 (([c0, c1, c2, c3].drop 3).take (Tryd.prog.cellsOf 3)) = [x0, x1, x2, x3][3]? := hf 3 _ rfl

  rw [Tryd.cellsI] at g0 g1 g3
  rw [Tryd.cellsS] at g2
  obtain ⟨n0, e0, rfl, _⟩ := DataW.trod_int Tryd.underlying3 (show DataW.trod _ _ _ _ _ _ _ _ [c0] = some x0 from g0)
  obtain ⟨n1, e1, rfl, _⟩ := DataW.trod_int Tryd.underlying3 (show DataW.trod _ _ _ _ _ _ _ _ [c1] = some x1 from g1)
  obtain ⟨s2, e2, rfl, _⟩ := DataW.trod_string Tryd.underlying9 (show DataW.trod _ _ _ _ _ _ _ _ [c2] = some x2 from g2)
  obtain ⟨n3, e3, rfl, _⟩ := DataW.trod_int Tryd.underlying3 (show DataW.trod _ _ _ _ _ _ _ _ [c3] = some x3 from g3)
  cases e0; cases e1; cases e2; cases e3
  simp at hx
  obtain ⟨rfl, rfl, hs, rfl⟩ := hx
  have : s2 = s := by
    cases s2; cases s
    simpa using hs
  subst this
  rfl
theorem gForms : Tryd.prog.globalNamed "ratoon/message.forms" = some 0 := by kernel_rfl
theorem tForms : (Tryd.prog.globals[0]?).map (·.type) = some 96 := by kernel_rfl
def fmD {H : Type} (f : Int × Int × ByteArray × Int) : DataW H := .agg [.lit (.int .i64 f.1), .lit (.int .i64 f.2.1), .lit (.string f.2.2.1.data.toList), .lit (.int .i64 f.2.2.2)]
theorem laid_forms {H : Type} : (Rows.laid_ratoon_message_forms : DataW H) = .agg (formL.map fmD) := by kernel_rfl
theorem formL_at {k : Nat} (h : k < 28) : formL[k]? = some (fmAt k) := by
  have h2 : ∀ k, k < 28 → k < formL.length := by decide
  simp [fmAt, h2 k h]
theorem forms_of_laid {W : World} (h : laidMetH Tryd.prog [("ratoon/message.forms", Rows.laid_ratoon_message_forms)] W) : FormsAt W := by
  rw [MakeChecks.laidMetH_plain _ _ _ (by kernel_rfl)] at h
  obtain ⟨ps, ⟨g0, t0, cs0, f0, p0, q0, hg0, ht0, hv0, hd0, _, _⟩, _, _⟩ := h
  obtain rfl := Option.some.inj (gForms.symm.trans hg0)
  obtain rfl := Option.some.inj (tForms.symm.trans ht0)
  obtain ⟨xs, m, rfl, hx1, hlen, hn, hel⟩ := DataW.trod_array Tryd.underlying96 hd0
  rw [Prod.mk.injEq, laid_forms, DataW.agg.injEq] at hx1
  intro k hk
  have hk2 := hel k hk
  rw [Tryd.cellsF] at hk2
  have hxk : k < xs.length := by omega
  rw [List.getElem?_eq_getElem hxk] at hk2
  have hd : (xs[k]).1 = fmD (fmAt k) := by
    have e1 : (xs.map (·.1))[k]? = (formL.map fmD)[k]? := by rw [hx1.1]
    rw [List.getElem?_map, List.getElem?_map, formL_at hk, List.getElem?_eq_getElem hxk] at e1
    simpa using e1
  have hc := form_cells hk2 _ _ _ _ hd
  have hget : ∀ j v, [Value.int .i64 (fmAt k).1, .int .i64 (fmAt k).2.1, .string (fmAt k).2.2.1, .int .i64 (fmAt k).2.2.2][j]? = some v → W.cell? ⟨0, k * 4 + j, none⟩ = some v := fun j v hj => by
    have hj4 : j < 4 := (List.getElem?_eq_some_iff.1 hj).1
    rw [← hc, List.getElem?_take, if_pos hj4, List.getElem?_drop] at hj
    have := World.var?_cell hg0 hv0 (k * 4 + j)
    rw [this]
    simpa using hj
  exact ⟨hget 0 _ rfl, hget 1 _ rfl, hget 2 _ rfl, hget 3 _ rfl⟩
set_option maxRecDepth 100000 in
theorem read_rounds {H : Type} {enc : TypeId × Value → H} {W : World} {base : Nat} {v : Value} {d : DataW H} {p : List MemPlace} (hv : Value.okWide Tryd.prog W .any base 22 v)
    (h : DataW.Trod enc Tryd.prog W 0 (fun _ => true) true 22 v d p) : ∃ L : List Rn, Rns W v L := by
  obtain ⟨l, h2, h3⟩ := read_val (rd := encR) (Rl := fun r => r.a < 256 ∧ r.b < 256) Tryd.cellsR (by omega) encR_len Tryd.underlying22 (fun y _ u hu => by
    simp only [encR, List.mem_cons, List.not_mem_nil, or_false] at hu
    rcases hu with rfl | rfl <;> rfl) (fun fuel cs x hx => by
    obtain ⟨c0, c1, y0, y1, n, rfl, g0, g1⟩ := trod_array2 Tryd.underlying32 Tryd.cellsB Tryd.cellsR hx
    obtain ⟨a, e0, _, wa⟩ := DataW.trod_int Tryd.underlying5 g0
    obtain ⟨b, e1, _, wb⟩ := DataW.trod_int Tryd.underlying5 g1
    cases e0; cases e1
    obtain ⟨x, rfl, hx1⟩ := wf_u8n wa
    obtain ⟨y, rfl, hy⟩ := wf_u8n wb
    exact ⟨⟨x, y⟩, rfl, hx1, hy⟩) hv h
  exact ⟨l, h2, h3⟩
end Go.Proofs.YthmnhpakgjnngaaDoor
