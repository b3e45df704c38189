/- Undo: resized -/
import Derived.Test.YtnbngidelpodkaaUa
import Derived.Test.YtnbngidelpodkaaUb
namespace Go.Proofs.Ytnbngidelpodkaa
open Go.RowKit Go.Bs Go.Cl Go.Rw Go.Un
set_option maxHeartbeats 400000 in
theorem resized_any {F : List Nat} {v : Value} {b : List UInt8} (n : Nat) (w : World) (hn : n ≤ 1000000) (hb : b.length ≤ 1000000) (hr : Bytes F w v b) :
    Calls Try.prog 54 #[v, .int .i64 n] w fun e w' => ∃ g, e = .returned (.slice (some ⟨g, 0, none⟩) n n) ∧ w.heap.size ≤ g ∧ w'.ownsRow w.heap.size 5 1 (.slice (some ⟨g, 0, none⟩) n n) n (bytesV (sized b n)) ∧ Below w.heap.size w w' := by
  have Hr := Lib.hid hr; clear hr
  go_enter Try.func54, Try.ntmps54
  go_wp2_with (refine wpList_make el22 w.heap.size n rfl _ _ rfl rfl rfl rfl rfl ?c1 ?c2 (Nat.le_refl _) ?_)
  case c1 => omega
  case c2 => unfold maxLen; omega
  intro w1 hown hgrow hsz
  rw [zeros_bytes] at hown
  have hb1 : Below w.heap.size w w1 := (Below.refl _ _).grown hgrow (Nat.le_refl _) (fun k h => by cases h)
  have Hown := Lib.hid hown; clear hown
  have Hr1 := Lib.hid (Raw.below Hr.out hb1)
  have hmin : ∃ d, Nat.min b.length n = d := ⟨_, rfl⟩
  obtain ⟨d, hd⟩ := hmin
  have Hd := Lib.hid hd; clear hd
  go_wp2_with (refine wpList_copy_raw el22 Hown.out Hr1.out rfl _ _ rfl rfl rfl (i := 0) rfl ?d1 Hd.out ?_)
  case d1 => omega
  intro w2 hown2 hgrow2 hsz2
  have hb2 : Below w.heap.size w w2 := hb1.grown hgrow2 hb1.size (fun k h => by cases h; exact Nat.le_refl _)
  rw [bytesV_take, splice_bytes, ← Hd.out, sized_splice] at hown2
  have Hown2 := Lib.hid hown2; clear hown2
  go_wp2
  go_ret
  exact ⟨_, rfl, Nat.le_refl _, Hown2.out, hb2⟩
end Go.Proofs.Ytnbngidelpodkaa
