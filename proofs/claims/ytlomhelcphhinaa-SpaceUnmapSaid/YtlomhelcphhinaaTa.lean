/- Space: slices.Delete of one element, Unmap -/
import Derived.Test.YtlomhelcphhinaaZd
import Derived.Test.YtlomhelcphhinaaTy
import Derived.Test.YtlomhelcphhinaaSr
import Derived.Test.YtlomhelcphhinaaSt
namespace Go.Proofs.Ytlomhelcphhinaa
open Go.RowKit Go.Bs Go.Sp Go.Cl Go.Rw
theorem el32 : Rw.Elem Try.prog 32 53 3 24 (.agg #[.int .i64 0, .int .i64 0, .bool false]) := ⟨Try.underlying32, Try.info53, rfl, by decide⟩
theorem _root_.Go.World.grownBy.trans' {a b c : World} {g : Nat} (h : a.drew.grownBy b (some g)) (k : b.grownBy c (some g)) : a.grownBy c (some g) :=
  ⟨k.os.trans h.os, k.tape.trans h.tape, k.output.trans h.output, Nat.le_trans h.size k.size, fun i hi hn => (k.block i (Nat.lt_of_lt_of_le hi h.size) hn).trans (h.block i hi hn)⟩
/-- an element deleted -/
def delE (l : List Ent) (i : Nat) : List Ent := l.take i ++ l.drop (i + 1)
theorem delE_len {l : List Ent} {i n : Nat} (h : l.length = n + 1) (hi : i ≤ n) : (delE l i).length = n := by simp [delE, h]; omega
theorem el32_one : ∀ u ∈ (Value.agg #[.int .i64 0, .int .i64 0, .bool false]).cells.toList, u.oneCell' = true := by intro u hu; simp [Value.cells] at hu; rcases hu with rfl | rfl | rfl <;> rfl
set_option maxRecDepth 100000 in
set_option maxHeartbeats 2000000 in
theorem delete_own {base g cap n : Nat} {l : List Ent} (i : Nat) (w : World) (hn : l.length = n + 1) (hi : i ≤ n) (hl : n ≤ 1000000) (h : w.ownsRow base 53 3 (.slice (some ⟨g, 0, none⟩) (n + 1) cap) (n + 1) (l.flatMap encE)) :
    Calls Try.prog 36 #[.slice (some ⟨g, 0, none⟩) (n + 1) cap, .int .i64 i, .int .i64 (i + 1)] w fun e w' => e = .returned (.slice (some ⟨g, 0, none⟩) n cap) ∧ w'.ownsRow base 53 3 (.slice (some ⟨g, 0, none⟩) n cap) n ((delE l i).flatMap encE) ∧ w.grownBy w' (some g) := by
  have hR := Raw.of_own (F := []) h (encE_one l) (fun f hf => by cases hf)
  have hcap : n + 1 ≤ cap ∧ cap ≤ maxLen := by obtain ⟨_, _, _, _, e, a, b, _⟩ := hR; cases e; exact ⟨a, b⟩
  have hcap2 : cap ≤ 9223372036854775807 := by have := hcap.2; unfold maxLen at this; omega
  obtain ⟨hc1, _⟩ := hcap
  obtain ⟨ad, hsl, hT⟩ := Raw.fromS hR Try.underlying32 (show (Try.prog.info? 53).map (·.size) = some 3 by kernel_rfl) (lo := i + 1) (by omega)
  rw [flat_drop encE encE_len] at hT
  rw [Int.natCast_add, Int.natCast_one] at hsl
  have hm : n + 1 - (i + 1) = n - i := by omega
  rw [hm] at hT hsl
  have HT := Lib.hid hT
  have HO := Lib.hid h
  have HN := Lib.hid hn
  have hne2 : ((i : Int) == i + 1) = false := by simp; omega
  have hi1 : (i : Int) ≤ n := by omega
  have hcn : ¬ cap = n := by omega
  clear hT hR h hm hn
  go_enter Try.func36, Try.ntmps36
  go_wp2
  refine Txt.Ty.wp_tree [] [] [] [] [0, 1, 2, 3, 4, 5] (.alt [6, 7] (.done) (.no)) (by kernel_rfl) (by kernel_rfl) (by kernel_rfl) (by kernel_rfl) (fun b hb => by cases hb) ?_
  (try simp only [Txt.pick, List.getElem?_cons_succ, List.getElem?_cons_zero])
  go_wp2
  refine Txt.RunPost.mk ?_
  refine Txt.Ty.wpTr_alt ?_ Txt.Ty.wpTr_no
  (try simp only [Txt.pick, List.getElem?_cons_succ, List.getElem?_cons_zero])
  go_wp2_with (at_builtin; refine wpList_append_self el32 (own_drew HO.out) _ _ rfl rfl rfl rfl HT.out.len HT.out.cellsS (encE_one _) ?c3 ?_)
  case c3 => omega
  intro w1 hown hg hs
  have hin : i + (n - i) = n := by omega
  (try rw [hin] at hown); (try rw [hin])
  rw [flat_take encE encE_len, ← List.flatMap_append] at hown
  have HO1 : Hid (w1.ownsRow base 53 3 (.slice (some ⟨g, 0, none⟩) n cap) n ((delE l i).flatMap encE)) := Lib.hid hown
  have HG := Lib.hid hg
  clear hown hg hs hin HT HO hsl
  go_wp2
  refine Txt.SegPost.mk Txt.Ty.Shown.none ?_
  (try simp only [Txt.pick, List.getElem?_cons_succ, List.getElem?_cons_zero])
  go_wp2
  refine Txt.RunPost.mk ?_
  refine Txt.Ty.wpTr_done (by rfl) trivial ?_
  go_wp2_with (with_reducible refine wpList_clear_own el32 el32_one (by decide) HO1.out rfl _ rfl rfl ?h1 ?h2 ?_)
  case h1 => omega
  case h2 => omega
  intro w2 hown2 hg2 hs2
  have HO2 := Lib.hid hown2
  have hgg := HG.out.trans' hg2
  clear hown2 hg2 hs2
  go_wp2
  go_ret
  exact ⟨rfl, HO2.out, hgg⟩
end Go.Proofs.Ytlomhelcphhinaa
