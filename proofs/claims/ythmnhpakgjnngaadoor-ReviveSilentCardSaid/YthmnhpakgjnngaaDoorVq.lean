/- Revive: silence: reader of masks -/
import Derived.Test.YthmnhpakgjnngaaDoorVp
namespace Go.Proofs.YthmnhpakgjnngaaDoor
open Go.RowKit Go.Bs Go.Cl Go.Rw Go.Dt Go.Rv Go.Rd Go.ChangeShapes Go.WideShapes Go.ChangeAt
theorem wf_u16n {n : Int} (h : (Lit.int .u16 n).wf = true) : ∃ x : Nat, n = x ∧ x < 65536 := by
  simp [Lit.wf, IntKind.min, IntKind.max, IntKind.signed, IntKind.bits] at h
  exact ⟨n.toNat, by omega, by omega⟩
theorem Tryd.cellsU : Tryd.prog.cellsOf 47 = 1 := by kernel_rfl
set_option maxRecDepth 100000 in
theorem read_masks {H : Type} {enc : TypeId × Value → H} {W : World} {base : Nat} {v : Value} {d : DataW H} {p : List MemPlace} (hv : Value.okWide Tryd.prog W .any base 46 v)
    (h : DataW.Trod enc Tryd.prog W 0 (fun _ => true) true 46 v d p) : ∃ L : List Nat, Msk W v L := by
  obtain ⟨l, h2, h3⟩ := Go.Rd.read_val (rd := encM) (Rl := fun r => r < 65536) Tryd.cellsU (by omega) encM_len Tryd.underlying46 (fun y _ u hu => by
    simp only [encM, List.mem_cons, List.not_mem_nil, or_false] at hu
    subst hu; rfl) (fun fuel cs x hx => by
    obtain ⟨a, e0, _, wa⟩ := DataW.trod_int Tryd.underlying47 hx
    obtain ⟨x, rfl, hx1⟩ := wf_u16n wa
    exact ⟨x, e0, hx1⟩) hv h
  exact ⟨l, h2, h3⟩
end Go.Proofs.YthmnhpakgjnngaaDoor
