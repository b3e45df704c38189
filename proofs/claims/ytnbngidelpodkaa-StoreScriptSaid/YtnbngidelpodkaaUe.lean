/- Undo: taken -/
import Derived.Test.YtnbngidelpodkaaUd
import Derived.Test.YtnbngidelpodkaaRr
import Derived.Shelf.Abstract
namespace Go.Proofs.Ytnbngidelpodkaa
open Go.RowKit Go.Bs Go.Cl Go.Rw Go.Un Go.Shelf
attribute [local go_sem] Oper.semAt_some

theorem ownsRow_grown {W W' : World} {base e size : Nat} {v : Value} {k : Nat} {xs : List Value} {row : Option Nat} (h : W.ownsRow base e size v k xs) (hg : W.grownBy W' row) (hr : ∀ r, row = some r → ∃ o : Obj, W.heap[r]? = some o ∧ o.isCells = false) : W'.ownsRow base e size v k xs := by
  refine h.kept hg ?_
  rcases h.2 with ⟨rfl, _⟩ | ⟨g, cap, cur, rfl, hb, hgg, _⟩
  · exact .inl rfl
  · refine .inr fun e => ?_
    obtain ⟨o, ho, hc⟩ := hr g e.symm
    rw [hgg] at ho; cases ho; simp [Obj.isCells] at hc
theorem boxed_grown {W W' : World} {B t : Nat} {v : Value} {row : Option Nat} (h : Boxed W B t v) (hg : W.grownBy W' row) (hr : ∀ r, row = some r → ∃ o : Obj, W.heap[r]? = some o ∧ o.isCells = false) : Boxed W' B t v := by
  refine h.kept hg fun e => ?_
  obtain ⟨o, ho, hc⟩ := hr B e.symm
  rw [show W.heap[B]? = _ from h] at ho; cases ho; simp [Obj.isCells] at hc
theorem keeps_below {B N : Nat} {W W' : World} (h : Below N W W') (hN : N = W.heap.size) : KeepsFrom B W W' := KeepsOthers.from ⟨h.size, fun k o hk _ => (h.block k (by have := (Array.getElem?_eq_some_iff.1 hk).1; omega)).trans hk⟩ B

theorem imgAt_le {rs : List (Rec × Value)} (hok : ∀ p ∈ rs, p.1.ok = true) : ∀ {b : List UInt8}, b.length ≤ 1000000 → ∀ pre : List (Fin rs.length), (imgAt b rs pre).length ≤ 1000000
  | b, h, [] => h
  | b, h, m :: pre => by
    have h1 := hok _ (List.mem_of_getElem? (recAt_get m.isLt))
    have h2 := Rec.ok_iff.1 h1
    exact imgAt_le hok (b := takeR b (recAt rs m.val).1) (by rw [takeR_len h1]; omega) pre
theorem wpIn_gen {F : Fence} {n : Nat} {P : Program} {c : Code} {Q : Exit → Act → World → Prop} {a : Act} {w : World} {I : World → Prop} (h : I w) (k : ∀ w', I w' → c.wpIn F n P Q a w') : c.wpIn F n P Q a w := k w h
theorem setCell_other (w : World) (a : Addr) (u : Value) {b o : Nat} (h : b ≠ a.block) : (w.setCell a u).cell? ⟨b, o, none⟩ = w.cell? ⟨b, o, none⟩ := World.cell?_of_block (w := w) (Below.heap_setCell w a u b h)
theorem _root_.Go.World.grownBy.cell? {w w' : World} {g b o : Nat} (h : w.grownBy w' (some g)) (hb : b < w.heap.size) (hne : b ≠ g) : w'.cell? ⟨b, o, none⟩ = w.cell? ⟨b, o, none⟩ := World.cell?_of_block (w := w) (h.block b hb (by simpa using hne))
theorem grown_of_drew {w w1 : World} {g : Option Nat} (h1 : w.drew.grownBy w1 g) : w.grownBy w1 g := ⟨h1.os, h1.tape, h1.output, h1.size, h1.block⟩
theorem own_isCells {w : World} {base e size n : Nat} {g cap : Nat} {xs : List Value} {o : Obj} (h : w.ownsRow base e size (.slice (some ⟨g, 0, none⟩) n cap) n xs) (ho : w.heap[g]? = some o) : o.isCells = true := by
  rcases h.2 with ⟨h, _⟩ | ⟨g', cap', cur, hv, _, hg, _⟩
  · cases h
  · cases hv; rw [hg] at ho; cases ho; rfl
/-- between two rounds -/
def TakenI (w : World) (base : Nat) (img : List UInt8) (rs : List (Rec × Value)) (pre : List (Fin rs.length)) (W : World) : Prop :=
  (∃ v, Boxed W w.heap.size 22 v ∧ W.ownsRow base 5 1 v (imgAt img rs pre).length (bytesV (imgAt img rs pre))) ∧ Below w.heap.size w W ∧ w.heap.size + 1 < W.heap.size
theorem takenI_own (w : World) (base : Nat) (img : List UInt8) (rs : List (Rec × Value)) (B : Nat) (hB : w.heap.size ≤ B) : OwnFrom B (TakenI w base img rs) := fun s W W' row ⟨⟨v, h1, h2⟩, h3, h4⟩ hg hr =>
  ⟨⟨v, boxed_grown h1 hg (fun r e => (hr r e).2), ownsRow_grown h2 hg (fun r e => (hr r e).2)⟩, h3.grown hg h3.size (fun k e => Nat.le_trans hB (hr k e).1), Nat.lt_of_lt_of_le h4 hg.size⟩

set_option maxRecDepth 100000 in
set_option maxHeartbeats 2000000 in
theorem taken_any {F : List Nat} (iv rv : Value) (img : List UInt8) (rs : List (Rec × Value)) (base : Nat) (w : World) (hl : rs.length ≤ 1000000) (him : img.length ≤ 1000000)
    (hown : w.ownsRow base 5 1 iv img.length (bytesV img)) (hbase : base ≤ w.heap.size)
    (hR : Raw F 3 w rv rs.length (rs.flatMap encR)) (hok : ∀ p ∈ rs, p.1.ok = true) (hby : ∀ p ∈ rs, Bytes F w p.2 p.1.old) :
    Calls Try.prog 60 #[iv, rv] w fun e w' => ∃ v', e = .returned v' ∧ w'.ownsRow base 5 1 v' (takeAll img (rs.map (·.1))).length (bytesV (takeAll img (rs.map (·.1)))) ∧ Below w.heap.size w w' := by
  refine (callsIn_wide (n := 9)).1 ?_
  obtain ⟨a, cap, hv⟩ : ∃ a cap, rv = .slice a rs.length cap := by obtain ⟨_, _, a, cap, h, _⟩ := hR; exact ⟨a, cap, h⟩
  subst hv
  obtain ⟨ia, icap, rfl⟩ := own_slice hown
  have HR := Lib.hid hR; clear hR
  have Hown := Lib.hid hown; clear hown
  have Hok := Lib.hid hok; clear hok
  have Hby := Lib.hid hby; clear hby
  refine callsIn_of_wp_marks Try.func60 rfl trivial ?_ rfl
  simp only [Try.ntmps60, List.size_toArray, List.length_cons, List.length_nil, Nat.reduceAdd, Nat.reduceSub, Array.replicate_succ, Array.replicate_zero, List.push_toArray, List.append_toArray, List.nil_append, List.cons_append]
  gi_wp2_with fail
  refine ⟨trivial, ?_⟩
  refine (callsIn_wide.2 (backward_any _ _ _ _)).mono ?_
  rintro e w' ⟨rfl, rfl⟩
  gi_wp2
  have bS := Boxed.new w 22 (.slice ia img.length icap)
  have bN := Boxed.new (w.alloc (.cells #[.slice ia img.length icap] 22)) 85 (.slice a rs.length cap)
  rw [World.size_alloc] at bN
  have hB0 : Below w.heap.size w ((w.alloc (.cells #[.slice ia img.length icap] 22)).alloc (.cells #[.slice a rs.length cap] 85)) := ((Below.refl _ w).alloc (Nat.le_refl _) _).alloc (by simp) _
  refine wpIn_rangeFunc_ownH (n := 9) rfl (by decide) (gf := 66) (lb := #[.pointer (some ⟨w.heap.size + 1, 0, none⟩)]) rfl trivial (enters_of Try.func66 (by kernel_rfl) rfl)
    (back_stops 8 (by decide) (w.heap.size + 1) w.heap.size _ rs hl _ (by simp) (by simp; omega) bN.cell (HR.out.below hB0) ?hn2) (fun h k => KB.trans h k) (fun W l o o' hl' h h1 h2 => KB.put (n₀ := w.heap.size) (Bs := w.heap.size + 1) (w := (w.alloc (.cells #[.slice ia img.length icap] 22)).alloc (.cells #[.slice a rs.length cap] 85)) (by simp; omega) (by simp) W l o o' hl' h h1 h2) (Below.refl _ _) ?hps
    (TakenI w base img rs) (fun _ _ _ => False) (takenI_own w base img rs _ (by simp; omega)) (fun _ _ _ _ _ hs _ _ => hs)
    ⟨⟨_, bS.alloc _, by simpa [imgAt] using (Hown.out.alloc _).alloc _⟩, hB0, by simp⟩
    (fun x a' W => ∃ q i, q < W.heap.size ∧ w.heap.size + 1 < q ∧ a' = { tmps := #[.slice ia img.length icap, .slice a rs.length cap, .pointer (some ⟨w.heap.size, 0, none⟩), undef, .slice none 0 0, undef, .pointer (some ⟨q, 0, none⟩), .slice a rs.length cap, .func (.func 66) #[] #[.pointer (some ⟨w.heap.size + 1, 0, none⟩)], i, .agg #[.int .i64 (recAt rs x.val).1.off, .int .i64 (recAt rs x.val).1.len, (recAt rs x.val).2], undef, undef, undef, undef, undef, undef, undef, undef, undef, undef, undef, undef], defers := [] } ∧
      W.heap[q]? = some (.cells #[.int .i64 (recAt rs x.val).1.off, .int .i64 (recAt rs x.val).1.len, (recAt rs x.val).2] 95 (0, 0)))
    ?hAx ?assign ?body ?done ?stop
  case hps => intro x; rfl
  case hn2 =>
    intro b o c e h0
    cases e
    rcases HR.out.cases with ⟨h, _⟩ | ⟨_, b', off, cap', he, _, _, hb, _⟩
    · omega
    · cases he; exact hb
  case hAx =>
    intro x a' _ W W' row h hg hr
    obtain ⟨q, i, h1, h2, h3, h4⟩ := h
    refine ⟨q, i, Nat.lt_of_lt_of_le h1 hg.size, h2, h3, (hg.block q h1 fun e => ?_).trans h4⟩
    obtain ⟨_, o, ho, hc⟩ := hr q e.symm
    rw [h4] at ho; cases ho; simp [Obj.isCells] at hc
  case assign =>
    intro l pre x W K hI hK
    have hz := hI.2.1.size
    have hlt := hI.2.2
    have HI := Lib.hid hI; clear hI
    obtain ⟨qv, hqv⟩ : ∃ q, recAt rs x.val = q := ⟨_, rfl⟩
    have hmem : qv ∈ rs := by rw [← hqv]; exact List.mem_of_getElem? (recAt_get x.isLt)
    obtain ⟨⟨qo, ql, qb⟩, qw⟩ := qv
    obtain ⟨qa, qc, hqw⟩ := Raw.slice (Hby.out _ hmem)
    simp only at hqw
    subst hqw
    rw [hqv] at hK ⊢
    dsimp only [aggR] at hK ⊢
    have HK := Lib.hid hK; clear hK
    clear hqv hmem
    gi_wp2
    refine HK.out _ _ ((KeepsOthers.alloc _ _).from _) ⟨(Below.refl _ _).alloc (by omega) _, ?_⟩ ((takenI_own w base img rs w.heap.size (Nat.le_refl _)).alloc _ HI.out) ⟨W.heap.size, _, by simp, ?_, rfl, heap_alloc_new W _⟩
    · exact Below.cell (p := ⟨w.heap.size + 1, 0, none⟩) ((Below.refl W.heap.size W).alloc (Nat.le_refl _) _) hlt
    · exact hlt
  case body =>
    rintro l pre x a' W hl' hL hI ⟨q, i, hq, hq2, rfl, hqb⟩ hlen
    obtain ⟨⟨v, hbx, hrow⟩, hbel, hsz⟩ := hI
    obtain ⟨va, vc, rfl⟩ := own_slice hrow
    obtain ⟨qv, hqv⟩ : ∃ q, recAt rs x.val = q := ⟨_, rfl⟩
    have hmem : qv ∈ rs := by rw [← hqv]; exact List.mem_of_getElem? (recAt_get x.isLt)
    have hsn := imgAt_snoc img rs pre x
    rw [hqv] at hqb hsn ⊢
    obtain ⟨⟨qo, ql, qb⟩, qw⟩ := qv
    have hqok := Rec.ok_iff.1 (Hok.out _ hmem)
    obtain ⟨qa, qc, hqw⟩ := Raw.slice (Hby.out _ hmem)
    simp only at hqw hqok
    subst hqw
    have HB := Lib.hid (Hby.out _ hmem)
    obtain ⟨hq0, hq1, hq2', hq3, hq4⟩ := hqok
    obtain ⟨ln, rfl⟩ : ∃ n : Nat, ql = n := ⟨ql.toNat, by omega⟩
    obtain ⟨on, rfl⟩ : ∃ n : Nat, qo = n := ⟨qo.toNat, by omega⟩
    have him0 := imgAt_le Hok.out him pre
    obtain ⟨m0, hm0⟩ : ∃ m0, m0 = imgAt img rs pre := ⟨_, rfl⟩
    rw [← hm0] at hrow him0 hsn hbx
    have Hsn := Lib.hid hsn
    clear hm0 hsn hmem hqv
    have Hrow := Lib.hid (Raw.of_own (F := []) hrow (bytesV_one _) (fun f h => by cases h)); clear hrow
    have c0 : W.cell? ⟨q, 0, none⟩ = some (.int .i64 on) := by simp [World.cell?, hqb]
    have c1 : W.cell? ⟨q, 1, none⟩ = some (.int .i64 ln) := by simp [World.cell?, hqb]
    have c2 : W.cell? ⟨q, 2, none⟩ = some (.slice qa qb.length qc) := by simp [World.cell?, hqb]
    have cb := hbx.cell
    have fb := hbx.frozen
    have Hbx := Lib.hid hbx; clear hbx hqb
    gi_wp2
    refine ⟨trivial, ?_⟩
    refine (CallsIn.inRound l (callsIn_wide.2 (resized_any ln _ (by omega) him0 Hrow.out))).mono ?_
    rintro e W1 ⟨g, rfl, hg, hown1, hb1⟩
    have hlt : w.heap.size < W.heap.size := by omega
    have hsz1 := hb1.size
    have hlt1 : w.heap.size < W1.heap.size := by omega
    obtain ⟨hc1, hf1⟩ := bcell hb1
    have Hown1 := Lib.hid hown1; clear hown1
    have hbox1 : Boxed W1 w.heap.size 22 (.slice va m0.length vc) := (hb1.block _ hlt).trans Hbx.out
    have Hbox1 := Lib.hid hbox1; clear hbox1
    gi_wp2
    refine wpIn_gen (I := fun z => Below w.heap.size w z ∧ z.ownsRow W.heap.size 5 1 (.slice (some ⟨g, 0, none⟩) ln ln) ln (bytesV (sized m0 ln)) ∧ Boxed z w.heap.size 22 (.slice (some ⟨g, 0, none⟩) ln ln) ∧ z.cell? ⟨q, 0, none⟩ = some (.int .i64 on) ∧ z.cell? ⟨q, 2, none⟩ = some (.slice qa qb.length qc) ∧ KeepsOthers W z ∧ z.cell? ⟨w.heap.size + 1, 0, none⟩ = W.cell? ⟨w.heap.size + 1, 0, none⟩ ∧ W.heap.size ≤ z.heap.size)
      ⟨(hbel.trans (hb1.mono (by omega))).setCell (Nat.le_refl _) _, ownsRow_setCell_below Hown1.out hlt _, Hbox1.out.set _, ?i1, ?i2, (KeepsOthers.trans ⟨hb1.size, fun k o hk _ => (hb1.block k (Array.getElem?_eq_some_iff.1 hk).1).trans hk⟩ (KeepsOthers.setCell _ _ _)), ?i3, by simp [World.setCell]; exact hsz1⟩ ?_
    case i1 => rw [setCell_other _ _ _ (by show q ≠ w.heap.size; omega)]; exact (hc1 q 0 hq).trans c0
    case i2 => rw [setCell_other _ _ _ (by show q ≠ w.heap.size; omega)]; exact (hc1 q 2 hq).trans c2
    case i3 => rw [setCell_other _ _ _ (by show w.heap.size + 1 ≠ w.heap.size; omega)]; exact hc1 _ 0 hsz
    clear hc1 hf1 hb1 Hown1 Hbox1 hlt1 hsz1 c0 c1 c2 cb fb
    rintro z ⟨hbz, hoz, hxz, c0, c2, hkz, hkb, hsz2⟩
    have cb := hxz.cell
    have Hoz := Lib.hid hoz; clear hoz
    have Hxz := Lib.hid hxz; clear hxz
    have HBz := Lib.hid (Raw.below HB.out hbz)
    have hfin : ∀ z2 : World, z2.ownsRow W.heap.size 5 1 (.slice (some ⟨g, 0, none⟩) ln ln) ln (bytesV (Un.written (sized m0 ln) on qb)) → z.grownBy z2 (some g) → TakenI w base img rs (pre ++ [x]) z2 ∧ KB w.heap.size (w.heap.size + 1) W z2 ∧ KeepsFrom ((w.alloc (.cells #[.slice ia img.length icap] 22)).alloc (.cells #[.slice a rs.length cap] 85)).heap.size W z2 := fun z2 h1 h2 => by
      have hne : w.heap.size ≠ g := by omega
      have hb2 := hbz.grown h2 (by omega) (fun k e => by cases e; omega)
      refine ⟨⟨⟨_, Hxz.out.kept h2 (by simpa using hne), ?_⟩, hb2, Nat.lt_of_lt_of_le (by omega) h2.size⟩, ⟨?_, ?_⟩, ?_⟩
      · rw [Hsn.out]
        have e : (Un.written (sized m0 ln) on qb).length = ln := by rw [written_len (by rw [sized_len]; omega), sized_len]
        show z2.ownsRow base 5 1 _ (Un.written (sized m0 (ln : Int).toNat) (on : Int).toNat qb).length (bytesV (Un.written (sized m0 (ln : Int).toNat) (on : Int).toNat qb))
        rw [Int.toNat_natCast, Int.toNat_natCast, e]
        exact own_base h1 (by omega)
      · exact ⟨hb2.os.trans hbel.os.symm, hb2.tape.trans hbel.tape.symm, hb2.output.trans hbel.output.symm, Nat.le_trans hsz2 h2.size, fun k hk => (hb2.block k hk).trans (hbel.block k hk).symm⟩
      · exact (h2.cell? (by omega) (by omega)).trans hkb
      · exact KeepsOthers.from (hkz.trans (KeepsOthers.of_grownBy h2 (fun j o e ho => by cases e; exact own_isCells Hoz.out ho))) _
    have Hfin := Lib.hid hfin; clear hfin
    refine Txt.region_round_txt (fun ⟨_, _, h⟩ => h) rfl (by kernel_rfl) (by kernel_rfl) ?_
    have hqb : qb.length + on ≤ ln := by omega
    by_cases heq : on = ln
    · subst heq
      have hq0 : qb = [] := List.eq_nil_of_length_eq_zero (by omega)
      subst hq0
      go_wp2_with (refine wpList_copy_raw el22 Hoz.out HBz.out rfl _ _ rfl rfl rfl (i := 0) (d := 0) ?o1 ?d1 ?d2 ?_)
      case o1 => rfl
      case d1 => omega
      case d2 => rfl
      intro z2 hown2 hgrow2 hsz3
      have e1 : Un.written (sized m0 on) on [] = sized m0 on := by simp [Un.written]
      have hf := Hfin.out z2 (by rw [e1]; simpa [splice] using hown2) (grown_of_drew hgrow2)
      have Hf := Lib.hid hf; clear hf hown2
      go_wp2
      refine Txt.DrawPost.mk0 (by rfl) ?_
      exact ⟨Hf.out.2.2, Hf.out.2.1, Hf.out.1⟩
    · have hlt3 : on < ln := by omega
      go_wp2_with (refine wpList_copy_raw el22 Hoz.out HBz.out rfl _ _ rfl rfl rfl (i := on) (d := qb.length) ?o1 ?d1 ?d2 ?_)
      case o1 => omega
      case d1 => omega
      case d2 => exact Nat.min_eq_left (by omega)
      intro z2 hown2 hgrow2 hsz3
      have hf := Hfin.out z2 (by rw [← splice_bytes]; rw [List.take_of_length_le (by rw [bytesV_len]; omega)] at hown2; simpa using hown2) (grown_of_drew hgrow2)
      have Hf := Lib.hid hf; clear hf hown2
      go_wp2
      refine Txt.DrawPost.mk0 (by rfl) ?_
      exact ⟨Hf.out.2.2, Hf.out.2.1, Hf.out.1⟩
  case done =>
    rintro D ys W hD rfl ⟨⟨v, hbx, hrow⟩, hbel, _⟩ hK
    have hc := hbx.cell
    gi_wp2
    refine ⟨by simp, .inl ⟨_, _, rfl, run_takeDeferred hK, ?_⟩⟩
    rw [imgAt_bk _ _ (Nat.le_refl _), Nat.sub_self, List.drop_zero] at hrow
    exact ⟨_, results_tmp rfl _ _ _, _, rfl, ownsRow_grown hrow (grownBy_putObj' W D _) (fun r e => by cases e; exact ⟨_, hK, rfl⟩), hbel.trans (belowK_b (w := w) (Nat.le_refl _) W D _ _ (by simp at hD; omega) hK rfl rfl)⟩
  case stop =>
    rintro D c pre W _ _ h _
    exact h.elim
end Go.Proofs.Ytnbngidelpodkaa
