/- A region that draws its order may be walked in the order of its text: the two rules. -/
import Derived.Test.YtlomhelcphhinaaTu
namespace Go.Txt
open Go
variable {P : Program} {ops : Array Oper} {Q : Exit → Act → World → Prop}

theorem wpF_append {S : World → Prop} {mv : Nat → Bool} {N : Act → World → Prop} : ∀ (l1 l2 : List Nat), wpF P ops S mv N (l1 ++ l2) = wpF P ops S mv (wpF P ops S mv N l2) l1
  | [], _ => rfl
  | i :: l1, l2 => by funext a w; rw [List.cons_append]; unfold wpF; rw [wpF_append l1 l2]

/-- the post of a part of a region: S, and then the rest -/
def SegPost (S : World → Prop) (N : Act → World → Prop) (Q : Exit → Act → World → Prop) : Exit → Act → World → Prop
  | .normal, a, w => S w ∧ N a w
  | .panic _, _, _ => False
  | .outgrown, _, _ => False
  | e, a, w => Q e a w
theorem SegPost.mk {S : World → Prop} {N : Act → World → Prop} {Q : Exit → Act → World → Prop} {a : Act} {w : World} (h : S w) (h' : N a w) : SegPost S N Q .normal a w := ⟨h, h'⟩

def nonMover (P : Program) (o : Oper) : Bool := calmKind P o || roKind P o

theorem seg_F {tl : List Nat} {S : World → Prop} {N N' : Act → World → Prop} (hN : ∀ a w, N a w → N' a w) : ∀ (s : List Oper) (k : Nat) (a : Act) (w : World), (∀ j, j < s.length → ops[k + j]? = s[j]?) → (s.dropLast.all (nonMover P)) = true →
    wpList P ops (SegPost S N Q) s a w → wpF P ops S (mvOf P tl ops) N' (List.range' k s.length) a w
  | [], _, _, _, _, _, h => hN _ _ h.2
  | o :: s, k, a, w, hs, hm, h => by
    have hk : ops[k]? = some o := by simpa using hs 0 (by simp)
    rw [List.length_cons, List.range'_succ]
    unfold wpF
    have h1 : wpOp P ops (SegPost S N Q) k (wpList P ops (SegPost S N Q) s) a w := by
      unfold wpOp; simp only [hk]; exact h
    refine wpOp_chg (fun c a w h => (h : False)) (fun ⟨a, w, h⟩ => (h : False).elim) (wpOp_mono (fun a' w' h' => ⟨fun hmv => ?_, ?_⟩) h1)
    · cases s with
      | nil => exact h'.1
      | cons o' s =>
        exfalso
        have : nonMover P o = true := by simp [List.dropLast] at hm; exact hm.1
        simp only [mvOf, hk] at hmv
        simp only [nonMover] at this
        rw [this] at hmv; simp at hmv
    · refine seg_F hN s (k + 1) a' w' (fun j hj => ?_) ?_ h'
      · have := hs (j + 1) (by simp; omega)
        simpa [Nat.add_assoc, Nat.add_comm 1 j] using this
      · cases s with
        | nil => rfl
        | cons o' s => simp [List.dropLast] at hm ⊢; exact hm.2

def LoadsIn (blocks : List Nat) (l : List Oper) (a : Act) : List Nat → Prop
  | [] => True
  | k :: r => (match l[k]? with | some o => FloatAt blocks o a.eval | none => True) ∧ LoadsIn blocks l a r
theorem LoadsIn.get {blocks : List Nat} {l : List Oper} {a : Act} : ∀ (fl : List Nat), LoadsIn blocks l a fl → ∀ k ∈ fl, ∀ (o : Oper), l[k]? = some o → FloatAt blocks o a.eval
  | [], _, k, hk, _, _ => by cases hk
  | j :: r, h, k, hk, o, ho => by
    rcases List.mem_cons.1 hk with rfl | hk
    · have := h.1; rw [ho] at this; exact this
    · exact LoadsIn.get r h.2 k hk o ho

/-- the post of a region: the operands that must be plain are plain in the end; no panic -/
def DrawPost (blocks : List Nat) (fl : List Nat) (l : List Oper) (Q : Exit → Act → World → Prop) : Exit → Act → World → Prop
  | .normal, a, w => ((l.all fun o => plainAt o a.eval) = true ∧ LoadsIn blocks l a fl) ∧ Q .normal a w
  | .panic _, _, _ => False
  | .outgrown, _, _ => False
  | e, a, w => Q e a w
theorem DrawPost.mk {blocks fl : List Nat} {l : List Oper} {a : Act} {w : World} (h : (l.all fun o => plainAt o a.eval) = true) (h1 : LoadsIn blocks l a fl) (h' : Q .normal a w) : DrawPost blocks fl l Q .normal a w := ⟨⟨h, h1⟩, h'⟩
theorem DrawPost.mk0 {blocks : List Nat} {l : List Oper} {a : Act} {w : World} (h : (l.all fun o => plainAt o a.eval) = true) (h' : Q .normal a w) : DrawPost blocks [] l Q .normal a w := ⟨⟨h, trivial⟩, h'⟩

/-- the region cut behind its first c operations, and so on; S behind each part -/
def wpCut (P : Program) (blocks fl : List Nat) (w0 : World) (l : List Oper) (Q : Exit → Act → World → Prop) : List Oper → List Nat → Act → World → Prop
  | rest, [], a, w => wpList P l.toArray (DrawPost blocks fl l Q) rest a w
  | rest, c :: cs, a, w => wpList P l.toArray (SegPost (SameB blocks w0) (wpCut P blocks fl w0 l Q (rest.drop c) cs) Q) (rest.take c) a w
/-- each part but the last has no operation that changes memory but at its end; those of the last part are in tl -/
def cutOK (P : Program) (tl : List Nat) : List Oper → List Nat → Nat → Bool
  | rest, [], k => rest.zipIdx.all fun (o, j) => nonMover P o || tl.contains (k + j)
  | rest, c :: cs, k => decide (c ≤ rest.length) && (rest.take c).dropLast.all (nonMover P) && cutOK P tl (rest.drop c) cs (k + c)

theorem tail_F {blocks fl tl : List Nat} {S : World → Prop} : ∀ (s : List Oper) (k : Nat) (a : Act) (w : World) (l : List Oper), (∀ j, j < s.length → l.toArray[k + j]? = s[j]?) → (∀ (j : Nat) (o : Oper), s[j]? = some o → nonMover P o = true ∨ k + j ∈ tl) →
    wpList P l.toArray (DrawPost blocks fl l Q) s a w → wpF P l.toArray S (mvOf P tl l.toArray) (fun a w => ((l.all fun o => plainAt o a.eval) = true ∧ LoadsIn blocks l a fl) ∧ Q .normal a w) (List.range' k s.length) a w
  | [], _, _, _, _, _, _, h => h
  | o :: s, k, a, w, l, hs, hm, h => by
    have hk : l.toArray[k]? = some o := by simpa using hs 0 (by simp)
    rw [List.length_cons, List.range'_succ]
    unfold wpF
    have h1 : wpOp P l.toArray (DrawPost blocks fl l Q) k (wpList P l.toArray (DrawPost blocks fl l Q) s) a w := by
      unfold wpOp; simp only [hk]; exact h
    refine wpOp_chg (fun c a w h => (h : False)) (fun ⟨a, w, h⟩ => (h : False).elim) (wpOp_mono (fun a' w' h' => ⟨fun hmv => ?_, ?_⟩) h1)
    · exfalso
      simp only [mvOf, hk] at hmv
      rcases hm 0 o (by simp) with h | h
      · simp only [nonMover] at h
        rw [h] at hmv; simp at hmv
      · simp at h; simp [h] at hmv
    · refine tail_F s (k + 1) a' w' l (fun j hj => ?_) (fun j o' ho' => ?_) h'
      · have := hs (j + 1) (by simp; omega)
        simpa [Nat.add_assoc, Nat.add_comm 1 j] using this
      · have := hm (j + 1) o' (by simpa using ho')
        simpa [Nat.add_assoc, Nat.add_comm 1 j] using this

theorem cut_F {blocks fl tl : List Nat} {w0 : World} {l : List Oper} : ∀ (cs : List Nat) (rest : List Oper) (k : Nat) (a : Act) (w : World), l.drop k = rest → cutOK P tl rest cs k = true →
    wpCut P blocks fl w0 l Q rest cs a w → wpF P l.toArray (SameB blocks w0) (mvOf P tl l.toArray) (fun a w => ((l.all fun o => plainAt o a.eval) = true ∧ LoadsIn blocks l a fl) ∧ Q .normal a w) (List.range' k rest.length) a w
  | [], rest, k, a, w, hd, hc, h => by
    refine tail_F rest k a w l (fun j hj => ?_) (fun j o ho => ?_) h
    · rw [← hd]; simp
    · unfold cutOK at hc
      have := List.all_eq_true.1 hc (o, j) (by rw [List.mem_iff_getElem?]; exact ⟨j, by simp [List.getElem?_zipIdx, ho]⟩)
      simpa using this
  | c :: cs, rest, k, a, w, hd, hc, h => by
    simp only [cutOK, Bool.and_eq_true, decide_eq_true_eq] at hc
    obtain ⟨⟨hcl, hs⟩, hr⟩ := hc
    have e : rest.length = c + (rest.drop c).length := by simp; omega
    rw [e, ← List.range'_append_1, wpF_append]
    have e2 : (rest.take c).length = c := by simp; omega
    have := seg_F (P := P) (tl := tl) (Q := Q) (ops := l.toArray) (S := SameB blocks w0) (fun a w h => cut_F cs (rest.drop c) (k + c) a w (by rw [← hd]; simp) hr h) (rest.take c) k a w (fun j hj => by rw [e2] at hj; rw [← hd]; simp [hj]) hs h
    rw [e2] at this
    exact this

theorem cut_any (cs blocks fl tl : List Nat) {l : List Oper} {a : Act} {w : World} (ht : textOK P fl tl l.toArray (Region.before l.toArray) = true) (hc : cutOK P tl l cs 0 = true)
    (hB : ∀ b ∈ blocks, ∃ c e f, w.heap[b]? = some (.cells c e f))
    (h : wpCut P blocks fl w.drew l Q l cs a w.drew) : wpAny P .any l.toArray Q l.toArray.size (Array.replicate l.toArray.size false) a { w with drawn := w.drawn + 1 } := by
  have hS : SameB blocks w.drew w.drew := fun b hb => ⟨hB b hb, rfl⟩
  refine wpAny_of_text (blocks := blocks) (fl := fl) (tl := tl) (w0 := w.drew) (N := fun a w => ((l.all fun o => plainAt o a.eval) = true ∧ LoadsIn blocks l a fl) ∧ Q .normal a w)
    (fun a w h => ⟨fun k o hk => List.all_eq_true.1 h.1.1 o (by simpa using Array.mem_of_getElem? hk), fun k hk o ho => LoadsIn.get fl h.1.2 k hk o (by simpa using ho)⟩) (fun a w h => h.2) ht _ _ _ _ (by simp) (Nat.le_trans (List.length_filter_le _ _) (by simp)) (fun k o ho hk => ?_) (fun _ => hS) ?_
  · exfalso
    rcases Nat.lt_or_ge k l.length with h' | h' <;> simp [h'] at hk
  · have e : left l.toArray (Array.replicate l.toArray.size false) = List.range' 0 l.length := by
      unfold left
      rw [← List.range_eq_range']
      refine List.filter_eq_self.2 fun k hk => ?_
      have := List.mem_range.1 hk
      simp at this
      simp [this]
    rw [e]
    exact cut_F cs l 0 a w.drew rfl hc h
/-- **A region that draws its order, walked in the order of its text, cut where S is to be shown.** cs: the lengths of the parts; blocks: the blocks that the loads fl read, which nobody changes before they have come up; tl: the operations of the last part that change memory. -/
theorem wp_cut (cs blocks fl tl : List Nat) {id : Nat} {l : List Oper} {a : Act} {w : World} (hm : P.follows .mixedOrders = true) (ht : textOK P fl tl l.toArray (Region.before l.toArray) = true) (hc : cutOK P tl l cs 0 = true)
    (hB : ∀ b ∈ blocks, ∃ c e f, w.heap[b]? = some (.cells c e f))
    (h : wpCut P blocks fl w.drew l Q l cs a w.drew) : (Code.region id l.toArray true).wp P Q a w := wp_region_any hm (cut_any cs blocks fl tl ht hc hB h)
/-- .. where no load floats -/
theorem txt_any {l : List Oper} {a : Act} {w : World} (ht : textOK P [] (List.range l.length) l.toArray (Region.before l.toArray) = true)
    (h : wpList P l.toArray (DrawPost [] [] l Q) l a w.drew) : wpAny P .any l.toArray Q l.toArray.size (Array.replicate l.toArray.size false) a { w with drawn := w.drawn + 1 } :=
  cut_any [] [] [] (List.range l.length) ht (List.all_eq_true.2 fun ⟨o, j⟩ hj => by
    have := List.mem_iff_getElem?.1 hj
    obtain ⟨i, hi⟩ := this
    simp [List.getElem?_zipIdx] at hi
    obtain ⟨o', ho', rfl, rfl⟩ := hi
    have := (List.getElem?_eq_some_iff.1 ho').1
    simp [this]) (fun b hb => by cases hb) h
theorem wp_txt {id : Nat} {l : List Oper} {a : Act} {w : World} (hm : P.follows .mixedOrders = true) (ht : textOK P [] (List.range l.length) l.toArray (Region.before l.toArray) = true)
    (h : wpList P l.toArray (DrawPost [] [] l Q) l a w.drew) : (Code.region id l.toArray true).wp P Q a w := wp_region_any hm (txt_any ht h)

theorem cells_of {w : World} {b o : Nat} {v : Value} (h : w.cell? ⟨b, o, none⟩ = some v) : ∃ c e f, w.heap[b]? = some (.cells c e f) := by
  unfold World.cell? at h
  split at h
  · exact ⟨_, _, _, ‹_›⟩
  · cases h
end Go.Txt
