/- A region within a round of a range over a function (wide fence) may be walked as everywhere. No program in sight. -/
import Derived.Test.YtnbngidelpodkaaRw
import Derived.RangeFuncCalls
import Derived.OrdersIn
import Derived.TacticsIn
namespace Go.Txt
open Go Go.RowKit
variable {P : Program} {Q : Exit → Act → World → Prop} {n r : Nat} {ops : Array Oper} {a : Act} {w : World}
def noDefer (o : Oper) : Bool := match o.op with | .defer _ => false | _ => true
theorem noDefer_ne {o : Oper} (h : noDefer o = true) : ∀ c, o.op ≠ .defer c := fun c e => by simp [noDefer, e] at h
theorem wpIn_of_wp {o : Oper} {K : Act → World → Prop} (hd : noDefer o = true) (h : o.wp P a w K Q) : o.wpIn (Fence.wide.inRound r) n P a w K Q := by
  refine ⟨fun _ _ => trivial, ?_⟩
  rw [Oper.semAt_eq _ _ _ (noDefer_ne hd)]
  unfold Oper.wp at h
  revert h
  generalize (execOp a.eval o).run P w = res
  intro h
  match res, h with
  | .ok (.value v) w', h => exact h
  | .ok .skip w', h => exact h
  | .ok (.defer d) w', h => exact h
  | .ok (.enter f args) w', h => exact ⟨fun hs => by simp [Fence.wide] at hs, callsIn_wide.2 h⟩
  | .ok (.row row args) w', h =>
    refine ⟨fun hs => by simp [Fence.wide] at hs, fun c cs _ => ?_⟩
    obtain ⟨v, w2, h1, h2⟩ := h c cs
    exact ⟨v, w2, h1, stepsIn_wide.2 h2⟩
  | .halt (.panic v) w', h => exact h
theorem wpListIn_of (hQ : ¬ LetsOut Q) : ∀ (l : List Oper) (a : Act) (w : World), l.all noDefer = true → wpList P ops Q l a w → wpListIn (Fence.wide.inRound r) n P ops Q l a w
  | [], _, _, _, h => h
  | o :: l, a, w, hd, h => by
    simp only [List.all_cons, Bool.and_eq_true] at hd
    unfold wpList at h
    unfold wpListIn
    split
    · rw [if_pos ‹_›] at h
      rcases h with h | h
      · exact Oper.wpIn_mono (fun a w h => wpListIn_of hQ l a w hd.2 h) (wpIn_of_wp hd.1 h)
      · exact absurd h.2 hQ
    · rw [if_neg ‹_›] at h
      exact ⟨fun _ _ => trivial, wpListIn_of hQ l _ _ hd.2 h⟩
theorem wpAnyIn_of (hQ : ¬ LetsOut Q) (hd : ∀ (i : Nat) (o : Oper), ops[i]? = some o → noDefer o = true) {md : Region.Mode} : ∀ (f : Nat) (L : Array Bool) (a : Act) (w : World), wpAny P md ops Q f L a w → wpAnyIn (Fence.wide.inRound r) n P md ops Q f L a w
  | 0, _, _, _, h => h
  | f + 1, L, a, w, h => by
    refine ⟨h.1, fun i hi => ?_⟩
    have := h.2 i hi
    unfold wpOp at this
    unfold wpOpIn
    split
    · rename_i hn; rw [hn] at this
      exact wpAnyIn_of hQ hd f _ _ _ this
    · rename_i o ho; rw [ho] at this
      dsimp only at this
      split
      · rw [if_pos ‹_›] at this
        rcases this with h | h
        · exact Oper.wpIn_mono (fun a w h => wpAnyIn_of hQ hd f _ a w h) (wpIn_of_wp (hd i o ho) h)
        · exact absurd h.2 hQ
      · rw [if_neg ‹_›] at this
        exact ⟨fun _ _ => trivial, wpAnyIn_of hQ hd f _ _ _ this⟩
/-- a region in the order of its text -/
theorem region_round {id : Nat} {l : List Oper} (hQ : ¬ LetsOut Q) (hd : l.all noDefer = true) (h : wpList P l.toArray Q l a w) : (Code.region id l.toArray false).wpIn (Fence.wide.inRound r) n P Q a w :=
  wpIn_region_lit (wpListIn_of hQ l a w hd h)
/-- a region that draws its order, by the order of its text -/
theorem region_round_txt {id : Nat} {l : List Oper} (hQ : ¬ LetsOut Q) (hd : l.all noDefer = true) (hm : P.follows .mixedOrders = true) (ht : textOK P [] (List.range l.length) l.toArray (Region.before l.toArray) = true)
    (h : wpList P l.toArray (DrawPost [] [] l Q) l a w.drew) : (Code.region id l.toArray true).wpIn (Fence.wide.inRound r) n P Q a w := by
  refine wpIn_region_any hm (wpAnyIn_of hQ (fun i o ho => List.all_eq_true.1 hd o (by have := Array.mem_of_getElem? ho; simpa using this)) _ _ _ _ ?_)
  exact txt_any ht h
end Go.Txt
