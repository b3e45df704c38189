/- A region that draws its order within a round of a range over a function, by a tree of orders. No program in sight. -/
import Derived.Test.YtnbngidelpodkaaTy
import Derived.Test.YtnbngidelpodkaaRr
namespace Go.Txt.Ty
open Go
theorem tree_any {P : Program} {Q : Exit → Act → World → Prop} (blocks fl tl lk : List Nat) (s : List Nat) (t : Tr) {l : List Oper} {a : Act} {w : World} (ht : altOK P fl tl lk l.toArray (Region.before l.toArray) = true)
    (hr : runOK P lk l.toArray (Array.replicate l.length false) s = true) (hT : trOK P lk l.toArray 100 (mark (Array.replicate l.length false) s) t = true)
    (hB : ∀ b ∈ blocks, ∃ c e f, w.heap[b]? = some (.cells c e f))
    (h : wpList P l.toArray (RunPost (wpTr P blocks fl tl w.drew l Q t) Q) (pick l s) a w.drew) : wpAny P .any l.toArray Q l.toArray.size (Array.replicate l.toArray.size false) a { w with drawn := w.drawn + 1 } := by
  have hS : SameB blocks w.drew w.drew := fun b hb => ⟨hB b hb, rfl⟩
  have hb : wpB P lk tl l.toArray (SameB blocks w.drew) (Leaf blocks fl l Q) l.length (Array.replicate l.length false) a w.drew :=
    run_B s _ _ _ _ (by simp) (Nat.le_trans (List.length_filter_le _ _) (by simp)) hr (fun n' hn' a w hw => tr_B 100 _ t n' a w (by rw [mark_size]; simp) hn' hT hw) (list_S s _ _ (runOK_calm s _ hr) h)
  refine wpAny_of_B (N := Leaf blocks fl l Q) (blocks := blocks) (w0 := w.drew) ht (fun a w h => ⟨fun k o hk => List.all_eq_true.1 h.1.1 o (by simpa using Array.mem_of_getElem? hk), fun k hk o ho => LoadsIn.get fl h.1.2 k hk o (by simpa using ho)⟩) (fun a w h => h.2) _ _ [] l.length _ _ (by simp) (Nat.le_trans (List.length_filter_le _ _) (by simp)) (fun k o ho hk => ?_) trivial (fun _ => hS) (by simpa [mark, wpF] using hb)
  exfalso
  rcases Nat.lt_or_ge k l.length with h' | h' <;> simp [h'] at hk
theorem region_round_tree {P : Program} {Q : Exit → Act → World → Prop} {n r : Nat} (blocks fl tl lk : List Nat) (s : List Nat) (t : Tr) {id : Nat} {l : List Oper} {a : Act} {w : World} (hQ : ¬ LetsOut Q) (hd : l.all noDefer = true) (hm : P.follows .mixedOrders = true) (ht : altOK P fl tl lk l.toArray (Region.before l.toArray) = true)
    (hr : runOK P lk l.toArray (Array.replicate l.length false) s = true) (hT : trOK P lk l.toArray 100 (mark (Array.replicate l.length false) s) t = true)
    (hB : ∀ b ∈ blocks, ∃ c e f, w.heap[b]? = some (.cells c e f))
    (h : wpList P l.toArray (RunPost (wpTr P blocks fl tl w.drew l Q t) Q) (pick l s) a w.drew) : (Code.region id l.toArray true).wpIn (Fence.wide.inRound r) n P Q a w := by
  refine wpIn_region_any hm (wpAnyIn_of hQ (fun i o ho => List.all_eq_true.1 hd o (by have := Array.mem_of_getElem? ho; simpa using this)) _ _ _ _ ?_)
  exact tree_any blocks fl tl lk s t ht hr hT hB h
end Go.Txt.Ty
