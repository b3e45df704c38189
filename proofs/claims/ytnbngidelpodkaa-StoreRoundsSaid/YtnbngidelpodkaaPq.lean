/- Store: reading a slice of images -/
import Derived.Test.YtnbngidelpodkaaPi
import Derived.Test.YtnbngidelpodkaaPr
namespace Go.Proofs.Ytnbngidelpodkaa
open Go.ChangeShapes Go.WideShapes Go.ChangeAt Go.RowKit Go.Bs Go.Cl Go.Rw Go.Rd Go.Deep Go.Joins
theorem flat_one (l : List (List UInt8 × Value)) : l.flatMap (fun p : List UInt8 × Value => [p.2]) = l.map (·.2) := by
  induction l with
  | nil => rfl
  | cons a l ih => rw [List.flatMap_cons, ih]; rfl
set_option maxRecDepth 100000 in
theorem read_imgs {H : Type} {enc : TypeId × Value → H} {W : World} {base : Nat} {v : Value} {d : DataW H} {p : List MemPlace} (hv : Value.okWide Try.prog W .any base 41 v)
    (h : DataW.Trod enc Try.prog W 0 (fun _ => true) true 41 v d p) : ∃ ls : List (List UInt8 × Value), ImgL [] W v ls := by
  obtain ⟨l, h1, h2⟩ := read_val (rd := fun p : List UInt8 × Value => [p.2]) (Rl := fun p => Bytes [] W p.2 p.1) (show Try.prog.cellsOf 22 = 1 by kernel_rfl) (by omega) (fun _ => rfl) Try.underlying41 (fun y hy u hu => by
    obtain ⟨a, c, hc⟩ := Raw.slice hy
    rw [List.mem_singleton.1 hu, hc]; rfl) (fun fuel cs x hx => by
    obtain ⟨w, l, e, hb⟩ := read_bytes_cs (by kernel_rfl) Try.underlying22 Try.underlying5 hx
    exact ⟨(l, w), e, hb⟩) hv h
  refine ⟨l, ?_, h2⟩
  rw [flat_one] at h1
  exact h1
end Go.Proofs.Ytnbngidelpodkaa
