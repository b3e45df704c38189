/- The wire's byte strings: the program's and the reference's encoders; the program reads one -/
import Derived.Test.YteefimjgcabpoaaWk
namespace Go.Wi
open Go Go.RowKit Go.Bs Go.Cl Go.Rw
theorem brow_nil (e : Nat) (w : World) (base : Nat) : BRow e w base (.slice none 0 0) [] := World.ownsRow_nil _ _ _ _
theorem brow_app {e m : Nat} {w : World} {base : Nat} {v : Value} {l1 l2 : List UInt8} (hm : m = l2.length) (h : w.ownsRow base e 1 v (l1.length + m) (bytesV l1 ++ bytesV l2)) : BRow e w base v (l1 ++ l2) := by
  subst hm
  show w.ownsRow base e 1 v (l1 ++ l2).length (bytesV (l1 ++ l2))
  rw [List.length_append, bytesV_append]; exact h
/-- x, ok and the position p are what reading a byte string at at_ gives -/
def IsY (b : List UInt8) (at_ : Nat) (most : Int) (x : List UInt8) (ok : Bool) (p : Nat) : Prop := match rdY b at_ most with | some (y, m) => x = y ∧ ok = true ∧ p = at_ + m | none => x = [] ∧ ok = false
theorem IsY.done {b : List UInt8} {at_ p : Nat} {most : Int} {x : List UInt8} {ok : Bool} (h : IsY b at_ most x ok p) : rY b most (at_, false) = (x, if ok then (p, false) else (at_, true)) := by
  unfold IsY at h
  unfold rY
  simp only [Bool.false_eq_true, if_false]
  cases hd : rdY b at_ most with
  | none => rw [hd] at h; obtain ⟨rfl, rfl⟩ := h; rfl
  | some q => obtain ⟨y, m⟩ := q; rw [hd] at h; obtain ⟨rfl, rfl, rfl⟩ := h; rfl
theorem rdB_le {b : List UInt8} {at_ m : Nat} {lo hi x : Int} (h : rdB b at_ lo hi = some (x, m)) : at_ + m ≤ b.length ∧ lo ≤ x ∧ x ≤ hi := ⟨(rdI_le (rdB_some h).1).1, (rdB_some h).2⟩
theorem IsY.of_none {b : List UInt8} {at_ p : Nat} {most : Int} (h : rdB b at_ 0 most = none) : IsY b at_ most [] false p := by
  have e : rdY b at_ most = none := by unfold rdY; simp only [h]
  unfold IsY; rw [e]; exact ⟨rfl, rfl⟩
theorem IsY.of_short {b : List UInt8} {at_ m p : Nat} {most x : Int} (h : rdB b at_ 0 most = some (x, m)) (hx : b.length < at_ + m + x.toNat) : IsY b at_ most [] false p := by
  have e : rdY b at_ most = none := by unfold rdY; simp only [h]; rw [if_neg (by omega)]
  unfold IsY; rw [e]; exact ⟨rfl, rfl⟩
theorem IsY.of_some {b : List UInt8} {at_ m n p q : Nat} {most : Int} (h : rdB b at_ 0 most = some ((n : Int), m)) (hp : p = at_ + m) (hx : p + n ≤ b.length) (hq : q = p + n) : IsY b at_ most ((b.take (p + n)).drop p) true q := by
  subst hp
  have e : rdY b at_ most = some ((b.take (at_ + m + n)).drop (at_ + m), m + n) := by unfold rdY; simp only [h, Int.toNat_natCast]; rw [if_pos hx]
  unfold IsY; rw [e]; exact ⟨rfl, rfl, by omega⟩
theorem rY_failed (b : List UInt8) (most : Int) (at_ : Nat) : rY b most (at_, true) = ([], at_, true) := rfl
theorem sub_len {b : List UInt8} {p n : Nat} (h : p + n ≤ b.length) : ((b.take (p + n)).drop p).length = n := by simp; omega
def BytesP (T : TypeId) (e0 : Nat) (w : World) (g : Nat) (bv : Value) (b : List UInt8) (at_ : Nat) (most : Int) (fl : Bool) (e : Ending) (w' : World) : Prop :=
  ∃ v x ok p, e = .returned (.tuple #[v, .bool ok]) ∧ RdAt T w' g bv b p fl ∧ Keep [g] w w' ∧ BRow e0 w' w.heap.size v x ∧ IsY b at_ most x ok p
end Go.Wi
namespace Go.Proofs.Yteefimjgcabpoaa
open Go.RowKit Go.Bs Go.Cl Go.Rw Go.Wi
set_option maxHeartbeats 1000000 in
/-- the program's encoder of byte strings -/
theorem wbytes_any (v xv : Value) (l x : List UInt8) (base : Nat) (w : World) (hl : l.length ≤ 1000000) (hx : x.length ≤ 1000000) (hown : BRow 5 w base v l) (hX : Bytes v.ownBlock.toList w xv x) (hbase : base ≤ w.heap.size) :
    Calls Try.prog 53 #[v, xv] w fun e w' => ∃ v', e = .returned v' ∧ Grows 5 w w' base v v' (l ++ encB x) := by
  obtain ⟨a, c, rfl⟩ := own_slice hown
  obtain ⟨xa, xc, rfl⟩ := Raw.slice hX
  have hfx : Wi.fits (x.length : Int) := by unfold Wi.fits; omega
  have Hfx := Lib.hid hfx; clear hfx
  have Hown := Lib.hid hown; clear hown
  have HX := Lib.hid hX; clear hX
  go_enter Try.func53, Try.ntmps53
  go_wp2_with fail
  refine (wint_any _ l (x.length : Int) base _ Hfx.out hl Hown.out hbase).mono ?_
  rintro e w1 ⟨v1, rfl, hg1⟩
  have hX1 := Raw.keep HX.out hg1.keep (fun f hf => .inl hf) hg1.news
  have hs1 := hg1.keep.size
  have hr1 := hg1.row
  have hil := encI_len Hfx.out
  obtain ⟨l1, hl1⟩ : ∃ l1, l ++ encI (x.length : Int) = l1 := ⟨_, rfl⟩
  have hl1l : l1.length ≤ 1000010 := by rw [← hl1]; simp; omega
  rw [hl1] at hr1 hg1
  have Hl1 := Lib.hid hl1
  have HG1 := Lib.hid hg1
  have HR1 := Lib.hid hr1
  have HX1 := Lib.hid hX1
  obtain ⟨a1, c1, hv1⟩ := own_slice hr1
  subst hv1
  clear hg1 hX1 hl1 hr1 hil
  go_wp2_with (at_builtin; refine wpList_appF elB Try.underlying22 HR1.out HX1.out (Below.refl 0 _) rfl _ _ rfl rfl rfl ?c3 ?cB ?c5 ?_)
  case c3 => omega
  case cB => omega
  case c5 => omega
  intro v2 w2 hown2 _ hk2 hn2
  have hg2 : Grows 5 w w2 base (.slice a l.length c) v2 (l ++ encB x) := by
    refine HG1.out.trans ⟨?_, hk2, by simpa using hn2⟩
    have := brow_app rfl hown2
    rw [← Hl1.out, List.append_assoc] at this
    exact this
  have Hg2 := Lib.hid hg2
  clear hown2 hk2 hn2 hg2
  go_wp2
  go_ret
  exact ⟨_, rfl, Hg2.out⟩
set_option maxHeartbeats 1000000 in
/-- the reference's encoder of byte strings -/
theorem rbytes_any (xv : Value) (x : List UInt8) (w : World) (hx : x.length ≤ 1000000) (hX : Bytes [] w xv x) :
    Calls Try.prog 55 #[xv] w fun e w' => ∃ v', e = .returned v' ∧ BRow 5 w' w.heap.size v' (encB x) ∧ Below w.heap.size w w' := by
  obtain ⟨xa, xc, rfl⟩ := Raw.slice hX
  have hfx : Wi.fits (x.length : Int) := by unfold Wi.fits; omega
  have Hfx := Lib.hid hfx; clear hfx
  have HX := Lib.hid hX; clear hX
  go_enter Try.func55, Try.ntmps55
  go_wp2_with fail
  refine (rint_any (x.length : Int) _ Hfx.out).mono ?_
  rintro e w1 ⟨v1, rfl, hr1, hb1⟩
  have HX1 := Lib.hid (Raw.below HX.out hb1)
  have hil := encI_len Hfx.out
  obtain ⟨l1, hl1⟩ : ∃ l1, encI (x.length : Int) = l1 := ⟨_, rfl⟩
  rw [hl1] at hr1 hil
  have Hl1 := Lib.hid hl1
  have HR1 := Lib.hid hr1
  obtain ⟨a1, c1, hv1⟩ := own_slice hr1
  subst hv1
  clear hl1 hr1
  go_wp2_with (at_builtin; refine wpList_appF elB Try.underlying22 HR1.out HX1.out hb1 rfl _ _ rfl rfl rfl ?c3 ?cB ?c5 ?_)
  case c3 => omega
  case cB => exact Nat.le_refl _
  case c5 => exact hb1.size
  intro v2 w2 hown2 hb2 hk2 hn2
  have hr2 : BRow 5 w2 w.heap.size v2 (encB x) := by
    have := brow_app rfl hown2
    rw [← Hl1.out] at this
    exact this
  have HR2 := Lib.hid hr2
  clear hown2 hk2 hn2 hr2
  go_wp2
  go_ret
  exact ⟨_, rfl, HR2.out, hb2⟩
set_option maxRecDepth 100000 in
set_option maxHeartbeats 2000000 in
theorem wbytes65_any (g : Nat) (bv : Value) (b : List UInt8) (at_ : Nat) (fl : Bool) (most : Int) (w : World) (h : RdAt 93 w g bv b at_ fl) (hbl : b.length ≤ 1000000) :
    Calls Try.prog 65 #[.pointer (some ⟨g, 0, none⟩), .int .i64 most] w (BytesP 93 5 w g bv b at_ most fl) := by
  obtain ⟨ba, bc, rfl⟩ := Raw.slice h.hb
  have hcap : b.length ≤ bc ∧ bc ≤ maxLen := by obtain ⟨_, _, a', c', hv, g3, g4, _⟩ := h.hb; cases hv; exact ⟨g3, g4⟩
  have H := Lib.hid h; clear h
  go_enter Try.func65, Try.ntmps65
  go_wp2_with fail
  refine (wbounded_any g _ b at_ fl 0 most _ H.out hbl).mono ?_
  rintro e w1 ⟨n, ok, p, rfl, hr, hk, hp, hm⟩
  have c0 : w1.cell? ⟨g, 0, none⟩ = some (.slice ba b.length bc) := box_at hr.hc rfl
  have c1 : w1.cell? ⟨g, 1, none⟩ = some (.int .i64 p) := box_at hr.hc rfl
  have f1 := box_free hr.hc 1
  have hpl := hr.ha
  have Hr := Lib.hid hr
  have Hk := Lib.hid hk
  clear hr hk
  cases hd : rdB b at_ 0 most with
  | none =>
    rw [hd] at hm
    simp only at hm
    subst hm
    have Hy := Lib.hid (IsY.of_none (p := p) hd)
    clear hd
    go_wp2
    refine Txt.wp_txt (by kernel_rfl) (by kernel_rfl) ?_
    go_wp2
    refine Txt.DrawPost.mk0 (by rfl) ?_
    go_wp2
    go_ret2
    exact ⟨_, [], false, p, rfl, Hr.out.drew, Hk.out.drew, brow_nil _ _ _, Hy.out⟩
  | some q =>
    obtain ⟨y, m⟩ := q
    rw [hd] at hm
    obtain ⟨rfl, rfl, hpm⟩ := hm
    obtain ⟨_, hn0, _⟩ := rdB_le hd
    obtain ⟨k, rfl⟩ : ∃ k : Nat, n = k := ⟨n.toNat, by omega⟩
    by_cases hsh : b.length < p + k
    · have hsh' : (b.length : Int) - p < k := by omega
      have Hy := Lib.hid (IsY.of_short (p := p) hd (by rw [Int.toNat_natCast]; omega))
      clear hd hpm hn0
      go_wp2
      refine Txt.wp_txt (by kernel_rfl) (by kernel_rfl) ?_
      go_wp2
      refine Txt.DrawPost.mk0 (by rfl) ?_
      go_wp2
      go_ret2
      exact ⟨_, [], false, p, rfl, Hr.out.drew, Hk.out.drew, brow_nil _ _ _, Hy.out⟩
    · have hsh' : (k : Int) ≤ (b.length : Int) - p := by omega
      have Hy := Lib.hid (IsY.of_some (q := p + k) hd hpm (by omega) rfl)
      have hsub := Bytes.sub Hr.out.hb (show p ≤ p + k by omega) (show p + k ≤ b.length by omega)
      obtain ⟨part, hpart⟩ : ∃ part, (b.take (p + k)).drop p = part := ⟨_, rfl⟩
      have hpl2 : part.length = k := by rw [← hpart]; exact sub_len (by omega)
      rw [hpart] at hsub Hy
      have Hsub := Lib.hid hsub
      have Hpl2 := Lib.hid hpl2
      clear hd hpm hn0 hpart hsub hpl2
      have hpk : ((p + k : Nat) : Int) = (p : Int) + k := by omega
      have hfin : ∀ w2 : World, Keep [] w1 w2 → RdAt 93 (w2.setCell ⟨g, 1, none⟩ (.int .i64 ((p : Int) + k))) g (.slice ba b.length bc) b (p + k) fl ∧ Keep [g] w (w2.setCell ⟨g, 1, none⟩ (.int .i64 ((p : Int) + k))) := fun w2 hk2 => by
        have h2 := Hr.out.keep hk2 (by simp) (Raw.to_nil Hr.out.hb)
        have h3 := h2.pos (p := p + k) (x := (p : Int) + k) (by omega) (by omega)
        exact ⟨h3.1, (Hk.out.trans hk2 (fun f hf => by cases hf)).trans h3.2 (fun f hf => .inl hf)⟩
      have Hfin := Lib.hid hfin
      clear hfin
      have hs1 := Hk.out.size
      rcases Decidable.em (p = bc) with hcf | hcf
      · obtain rfl : k = 0 := by omega
        obtain rfl : part = [] := List.eq_nil_of_length_eq_zero Hpl2.out
        subst hcf
        go_wp2
        refine Txt.wp_txt (by kernel_rfl) (by kernel_rfl) ?_
        go_wp2
        refine Txt.DrawPost.mk0 (by rfl) ?_
        go_wp2
        refine Txt.wp_txt (by kernel_rfl) (by kernel_rfl) ?_
        have HN := Lib.hid (World.ownsRow_nil w1.drew.drew w1.heap.size 5 1)
        have HX : Hid (Raw [] 1 w1.drew.drew (.slice ba 0 0) 0 (bytesV ([] : List UInt8))) := Lib.hid (Raw.zero' [] 1 _ _ _ _ rfl (Nat.zero_le _))
        go_wp2_with (at_builtin; refine wpList_appF elB Try.underlying22 HN.out HX.out (Below.refl 0 w1.drew.drew) rfl _ _ rfl rfl rfl ?c3 ?cB ?c5 ?_)
        case c3 => omega
        case cB => omega
        case c5 => exact Nat.le_refl _
        intro v2 w2 hown2 _ hk2 hn2
        have hk2' : Keep [] w1 w2 := (Keep.refl [] w1).drew.drew.trans hk2 (fun f hf => by simp [Value.ownBlock] at hf)
        obtain ⟨h3, h4⟩ := Hfin.out w2 hk2'
        have hrow : BRow 5 w2 w1.heap.size v2 ([] : List UInt8) := by
          show w2.ownsRow w1.heap.size 5 1 v2 ([] : List UInt8).length (bytesV ([] : List UInt8))
          rw [Hpl2.out]; simpa using hown2
        have hg1 := Hr.out.lt
        have hrow2 : BRow 5 (w2.setCell ⟨g, 1, none⟩ (.int .i64 ((p : Int) + ((0 : Nat) : Int)))) w.heap.size v2 ([] : List UInt8) := own_base (own_keep hrow ((Keep.refl [g] w2).setCell (by simp) _) (fun r hr hm => by have := (hrow.lt r hr).1; rw [List.mem_singleton.1 hm] at this; omega)) hs1
        have H3 := Lib.hid h3; have H4 := Lib.hid h4; have Hrow2 := Lib.hid hrow2
        have c1 : w2.cell? ⟨g, 1, none⟩ = some (.int .i64 p) := (hk2'.cell hg1 (by simp)).trans c1
        have f1 : w2.frozen? ⟨g, 1, none⟩ = false := (hk2'.froz hg1 (by simp)).trans f1
        obtain ⟨a2, c2, hv2⟩ := own_slice hrow
        subst hv2
        clear hown2 hk2 hn2 hk2' h3 h4 hrow hrow2
        go_wp2
        refine Txt.DrawPost.mk0 (by rfl) ?_
        go_wp2
        go_ret2
        exact ⟨_, ([] : List UInt8), true, _, rfl, H3.out, H4.out, Hrow2.out, Hy.out⟩
      · have hcf' : ¬ bc = p := fun e => hcf e.symm
        go_wp2
        refine Txt.wp_txt (by kernel_rfl) (by kernel_rfl) ?_
        go_wp2
        refine Txt.DrawPost.mk0 (by rfl) ?_
        go_wp2
        refine Txt.wp_txt (by kernel_rfl) (by kernel_rfl) ?_
        have HN := Lib.hid (World.ownsRow_nil w1.drew.drew w1.heap.size 5 1)
        have HX := Lib.hid (Raw.drew (Raw.drew Hsub.out))
        go_wp2_with (at_builtin; refine wpList_appF elB Try.underlying22 HN.out HX.out (Below.refl 0 w1.drew.drew) rfl _ _ rfl rfl rfl ?c3 ?cB ?c5 ?_)
        case c3 => omega
        case cB => omega
        case c5 => exact Nat.le_refl _
        intro v2 w2 hown2 _ hk2 hn2
        have hk2' : Keep [] w1 w2 := (Keep.refl [] w1).drew.drew.trans hk2 (fun f hf => by simp [Value.ownBlock] at hf)
        obtain ⟨h3, h4⟩ := Hfin.out w2 hk2'
        have hrow : BRow 5 w2 w1.heap.size v2 part := by
          show w2.ownsRow w1.heap.size 5 1 v2 part.length (bytesV part)
          rw [Hpl2.out]; simpa using hown2
        have hg1 := Hr.out.lt
        have hrow2 : BRow 5 (w2.setCell ⟨g, 1, none⟩ (.int .i64 ((p : Int) + k))) w.heap.size v2 part := own_base (own_keep hrow ((Keep.refl [g] w2).setCell (by simp) _) (fun r hr hm => by have := (hrow.lt r hr).1; rw [List.mem_singleton.1 hm] at this; omega)) hs1
        have H3 := Lib.hid h3; have H4 := Lib.hid h4; have Hrow2 := Lib.hid hrow2
        have c1 : w2.cell? ⟨g, 1, none⟩ = some (.int .i64 p) := (hk2'.cell hg1 (by simp)).trans c1
        have f1 : w2.frozen? ⟨g, 1, none⟩ = false := (hk2'.froz hg1 (by simp)).trans f1
        obtain ⟨a2, c2, hv2⟩ := own_slice hrow
        subst hv2
        clear hown2 hk2 hn2 hk2' h3 h4 hrow hrow2
        go_wp2
        refine Txt.DrawPost.mk0 (by rfl) ?_
        go_wp2
        go_ret2
        exact ⟨_, part, true, _, rfl, H3.out, H4.out, Hrow2.out, Hy.out⟩
end Go.Proofs.Yteefimjgcabpoaa
