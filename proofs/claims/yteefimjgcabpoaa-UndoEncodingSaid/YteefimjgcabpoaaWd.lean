/- The wire's readers: what a reader is; the program reads an integer -/
import Derived.Test.YteefimjgcabpoaaWc
namespace Go.Wi
open Go Go.RowKit Go.Bs Go.Cl Go.Rw
/-- a reader lies at block g -/
structure RdAt (T : TypeId) (w : World) (g : Nat) (bv : Value) (b : List UInt8) (at_ : Nat) (fl : Bool) : Prop where
  hc : w.heap[g]? = some (.cells #[bv, .int .i64 at_, .bool fl] T (0, 0))
  hb : Bytes [g] w bv b
  ha : at_ ≤ b.length
variable {T : TypeId} {w w' : World} {g at_ : Nat} {bv : Value} {b : List UInt8} {fl : Bool}
theorem RdAt.lt (h : RdAt T w g bv b at_ fl) : g < w.heap.size := (Array.getElem?_eq_some_iff.1 h.hc).1
theorem RdAt.below (h : RdAt T w g bv b at_ fl) (hb : Below w.heap.size w w') : RdAt T w' g bv b at_ fl := ⟨(hb.block g h.lt).trans h.hc, Raw.below h.hb hb, h.ha⟩
theorem RdAt.keep {G : List Nat} (h : RdAt T w g bv b at_ fl) (hk : Keep G w w') (hg : g ∉ G) (hB : Bytes G w bv b) : RdAt T w' g bv b at_ fl :=
  ⟨(hk.block g h.lt hg).trans h.hc, Raw.keep (Raw.both h.hb hB) hk (fun f hf => .inl (List.mem_append_right _ hf)) (fun f hf => .inl (List.mem_append_left _ hf)), h.ha⟩
theorem RdAt.drew (h : RdAt T w g bv b at_ fl) : RdAt T w.drew g bv b at_ fl := ⟨h.hc, h.hb, h.ha⟩
theorem RdAt.pos (h : RdAt T w g bv b at_ fl) {p : Nat} (hp : p ≤ b.length) {x : Int} (hx : x = p) : RdAt T (w.setCell ⟨g, 1, none⟩ (.int .i64 x)) g bv b p fl ∧ Keep [g] w (w.setCell ⟨g, 1, none⟩ (.int .i64 x)) := by
  subst hx
  have hk : Keep [g] w (w.setCell ⟨g, 1, none⟩ (.int .i64 p)) := (Keep.refl [g] w).setCell (by simp) _
  refine ⟨⟨?_, Raw.keep h.hb hk (fun f hf => .inl hf) (fun f hf => .inl hf), hp⟩, hk⟩
  simp only [World.setCell, Array.getElem?_modify]
  simp [h.hc]
theorem RdAt.fail (h : RdAt T w g bv b at_ fl) (fl' : Bool) : RdAt T (w.setCell ⟨g, 2, none⟩ (.bool fl')) g bv b at_ fl' ∧ Keep [g] w (w.setCell ⟨g, 2, none⟩ (.bool fl')) := by
  have hk : Keep [g] w (w.setCell ⟨g, 2, none⟩ (.bool fl')) := (Keep.refl [g] w).setCell (by simp) _
  refine ⟨⟨?_, Raw.keep h.hb hk (fun f hf => .inl hf) (fun f hf => .inl hf), h.ha⟩, hk⟩
  simp only [World.setCell, Array.getElem?_modify]
  simp [h.hc]
/-- a byte of the reader -/
theorem RdAt.byte (h : RdAt T w g bv b at_ fl) {i : Nat} (hi : i < b.length) : ∃ q off c, bv = .slice (some ⟨q, off, none⟩) b.length c ∧ w.cell? ⟨q, off + i, none⟩ = some (byteV b[i]) := by
  rcases Raw.cases h.hb with ⟨h0, _⟩ | ⟨_, q, off, c, hv, _, _, _, _, hc⟩
  · omega
  · exact ⟨q, off, c, hv, hc i _ (by simp [bytesV, hi])⟩
/-- what the program's reading of an integer leaves -/
def IntR (T : TypeId) (w : World) (g : Nat) (bv : Value) (b : List UInt8) (at_ : Nat) (fl : Bool) (e : Ending) (w' : World) : Prop :=
  ∃ n ok p, e = .returned (.tuple #[.int .i64 n, .bool ok]) ∧ RdAt T w' g bv b p fl ∧ Keep [g] w w' ∧ at_ ≤ p ∧ (match rdI b at_ with | some (x, m) => n = x ∧ ok = true ∧ p = at_ + m | none => n = 0 ∧ ok = false)
theorem IntR.some {w' : World} {n : Int} {v m p : Nat} (hrd : rdU (b.drop at_) 0 0 = some (v, m)) (hr : RdAt T w' g bv b p fl) (hk : Keep [g] w w') (hn : n = zag v) (hp : p = at_ + m) : IntR T w g bv b at_ fl (.returned (.tuple #[.int .i64 n, .bool true])) w' :=
  ⟨n, true, p, rfl, hr, hk, by omega, by unfold rdI; rw [hrd]; exact ⟨hn, rfl, hp⟩⟩
theorem IntR.none {w' : World} {p : Nat} (hrd : rdU (b.drop at_) 0 0 = none) (hr : RdAt T w' g bv b p fl) (hk : Keep [g] w w') (hp : at_ ≤ p) : IntR T w g bv b at_ fl (.returned (.tuple #[.int .i64 0, .bool false])) w' :=
  ⟨0, false, p, rfl, hr, hk, hp, by unfold rdI; rw [hrd]; exact ⟨rfl, rfl⟩⟩
theorem rdU_nil {b : List UInt8} {at_ k u : Nat} (h : b.length ≤ at_ + k) : rdU (b.drop (at_ + k)) k u = none := by rw [List.drop_eq_nil_of_le h]; rfl
theorem rdU_ten {l : List UInt8} {u : Nat} : rdU l 10 u = none := by cases l <;> simp [rdU]
theorem rdU_bad {b : List UInt8} {p k u : Nat} (hp : p < b.length) (h : (k = 9 ∧ 1 < b[p].toNat) ∨ (0 < k ∧ b[p].toNat = 0)) : rdU (b.drop p) k u = none := by
  rw [List.drop_eq_getElem_cons hp]; unfold rdU; rw [if_pos (by omega)]
theorem rdU_last {b : List UInt8} {p k u : Nat} (hp : p < b.length) (hk : k < 10) (h1 : ¬ (k = 9 ∧ 1 < b[p].toNat)) (h2 : ¬ (0 < k ∧ b[p].toNat = 0)) (h3 : b[p].toNat < 128) : rdU (b.drop p) k u = some (u + b[p].toNat * 128 ^ k, k + 1) := by
  rw [List.drop_eq_getElem_cons hp]; unfold rdU; rw [if_neg (by omega), if_pos h3]
theorem rdU_more {b : List UInt8} {p k u : Nat} (hp : p < b.length) (hk : k < 10) (h1 : ¬ (k = 9 ∧ 1 < b[p].toNat)) (h3 : 128 ≤ b[p].toNat) : rdU (b.drop p) k u = rdU (b.drop (p + 1)) (k + 1) (u + (b[p].toNat % 128) * 128 ^ k) := by
  rw [List.drop_eq_getElem_cons hp]; rw [rdU, if_neg (by omega), if_neg (by omega)]
end Go.Wi
namespace Go.Proofs.Yteefimjgcabpoaa
open Go.RowKit Go.Bs Go.Cl Go.Rw Go.Wi
set_option maxRecDepth 100000 in
set_option maxHeartbeats 8000000 in
theorem wint63_any (g : Nat) (bv : Value) (b : List UInt8) (at_ : Nat) (fl : Bool) (w : World) (h : RdAt 93 w g bv b at_ fl) (hbl : b.length ≤ 1000000) :
    Calls Try.prog 63 #[.pointer (some ⟨g, 0, none⟩)] w (IntR 93 w g bv b at_ fl) := by
  obtain ⟨ba, bc, rfl⟩ := Raw.slice h.hb
  have H := Lib.hid h; clear h
  go_enter Try.func63, Try.ntmps63
  go_wp2
  go_loopw [4, 5] (fun uv kv wr => ∃ (k u : Nat), kv = .int .i64 k ∧ uv = .int .u64 u ∧ k ≤ 10 ∧ u < 128 ^ k ∧ RdAt 93 wr g (.slice ba b.length bc) b (at_ + k) fl ∧ Keep [g] w wr ∧ rdU (b.drop at_) 0 0 = rdU (b.drop (at_ + k)) k u) (fun _ kv _ => 10 - (intOf kv).toNat)
  case atStart => exact ⟨0, 0, rfl, rfl, by omega, by simp, H.out, Keep.refl _ _, rfl⟩
  case round =>
    obtain ⟨k, u, rfl, rfl, hk, hu, hr, hkp, hrd⟩ := hrel
    have hal := hr.ha
    have Hr := Lib.hid hr
    have Hrd := Lib.hid hrd
    have Hkp := Lib.hid hkp
    have Hu := Lib.hid hu
    have c0 : wr.cell? ⟨g, 0, none⟩ = some (.slice ba b.length bc) := box_at hr.hc rfl
    have c1 : wr.cell? ⟨g, 1, none⟩ = some (.int .i64 ((at_ + k : Nat) : Int)) := box_at hr.hc rfl
    have f1 := box_free hr.hc 1
    clear hr hrd hkp hu
    have hsum : ((at_ + k : Nat) : Int) = (at_ : Int) + k := by omega
    by_cases hin : k < 10 ∧ at_ + k < b.length
    · obtain ⟨hk10, hab⟩ := hin
      obtain ⟨q, off, c, hbe, hcell⟩ := Hr.out.byte hab
      cases hbe
      obtain ⟨x, hx⟩ : ∃ x, b[at_ + k].toNat = x := ⟨_, rfl⟩
      have hx256 : x < 256 := by rw [← hx]; exact UInt8.toNat_lt _
      unfold byteV at hcell
      rw [hx] at hcell
      have hab' : (at_ : Int) + k < b.length := by omega
      have hx0 : 0 ≤ (x : Int) := by omega
      have hx1 : (x : Int) < 256 := by omega
      have Hx := Lib.hid hx; clear hx
      have hpos := Hr.out.pos (p := at_ + k + 1) (x := (at_ : Int) + k + 1) (by omega) (by omega)
      have Hpos := Lib.hid (And.intro hpos.1.drew.drew hpos.2.drew.drew); clear hpos
      rcases Nat.lt_or_ge k 9 with hk9 | hk9
      · have hk9' : (k : Int) < 9 := by omega
        by_cases hbad : 0 < k ∧ x = 0
        · obtain ⟨hb1, hb2⟩ := hbad
          have Hbad := Lib.hid (rdU_bad (u := u) hab (k := k) (.inr ⟨hb1, by rw [Hx.out]; exact hb2⟩))
          subst hb2
          have hb1' : 0 < (k : Int) := by omega
          go_wp2
          refine Txt.wp_txt (by kernel_rfl) (by kernel_rfl) ?_
          go_wp2
          refine Txt.DrawPost.mk0 (by rfl) ?_
          go_wp2
          refine Txt.wp_txt (by kernel_rfl) (by kernel_rfl) ?_
          go_wp2
          refine Txt.DrawPost.mk0 (by rfl) ?_
          go_wp2
          go_ret2
          exact IntR.none (Hrd.out.trans Hbad.out) Hpos.out.1 (Hkp.out.trans Hpos.out.2 (fun f hf => .inl hf)) (by omega)
        · have hor := or_sum (u := u) (x := x) (k := k) (by omega) Hu.out hx256 (fun e => by omega)
          obtain ⟨v, hv⟩ : ∃ v, u + x % 128 * 128 ^ k = v := ⟨_, rfl⟩
          rw [hv] at hor
          obtain ⟨hv64, hor⟩ := hor
          have Hv := Lib.hid hv; clear hv
          by_cases hlast : x < 128
          · have hlast' : (x : Int) < 128 := by omega
            have hl := rdU_last (u := u) hab hk10 (fun h => by omega) (fun h => hbad ⟨h.1, by rw [← Hx.out]; exact h.2⟩) (by rw [Hx.out]; exact hlast)
            rw [Hx.out, show x * 128 ^ k = x % 128 * 128 ^ k by rw [Nat.mod_eq_of_lt hlast], Hv.out] at hl
            have Hl := Lib.hid hl; clear hl
            have hbad2 : (k : Int) = 0 ∨ (x : Int) ≠ 0 := by omega
            have hbit := and_one hv64
            have hw := half_wrap hv64
            have Hv64 := Lib.hid hv64; clear hv64
            rcases Nat.mod_two_eq_zero_or_one v with hpar | hpar
            · rw [hpar] at hbit
              have Hpar := Lib.hid hpar; clear hpar
              go_wp2
              refine Txt.wp_txt (by kernel_rfl) (by kernel_rfl) ?_
              go_wp2
              refine Txt.DrawPost.mk0 (by rfl) ?_
              go_wp2
              refine Txt.wp_txt (by kernel_rfl) (by kernel_rfl) ?_
              go_wp2
              refine Txt.DrawPost.mk0 (by rfl) ?_
              go_wp2
              all_goals
                go_ret2
                have q1 := Hrd.out.trans Hl.out
                have q3 := Hkp.out.trans Hpos.out.2 (fun f hf => .inl hf)
                have q4 := zag_even Hpar.out Hv64.out
                exact IntR.some q1 Hpos.out.1 q3 q4 (by omega)
            · rw [hpar] at hbit
              have Hpar := Lib.hid hpar; clear hpar
              go_wp2
              refine Txt.wp_txt (by kernel_rfl) (by kernel_rfl) ?_
              go_wp2
              refine Txt.DrawPost.mk0 (by rfl) ?_
              go_wp2
              refine Txt.wp_txt (by kernel_rfl) (by kernel_rfl) ?_
              go_wp2
              refine Txt.DrawPost.mk0 (by rfl) ?_
              go_wp2
              all_goals
                go_ret2
                have q1 := Hrd.out.trans Hl.out
                have q3 := Hkp.out.trans Hpos.out.2 (fun f hf => .inl hf)
                have q4 := zag_odd' Hpar.out Hv64.out
                exact IntR.some q1 Hpos.out.1 q3 q4 (by omega)
          · have hlast' : 128 ≤ (x : Int) := by omega
            have hx0' : (x == 0) = false := by simp; omega
            have hl := rdU_more (u := u) hab hk10 (fun h => by omega) (by rw [Hx.out]; omega)
            rw [Hx.out, Hv.out] at hl
            have Hl := Lib.hid hl; clear hl
            have hvu : v < 128 ^ (k + 1) := by
              rw [← Hv.out, Nat.pow_succ]
              have h1 : x % 128 * 128 ^ k ≤ 127 * 128 ^ k := Nat.mul_le_mul_right _ (by omega)
              have h2 := Hu.out
              rw [Nat.mul_comm (128 ^ k) 128]
              generalize 128 ^ k = P at h1 h2 ⊢
              omega
            have Hvu := Lib.hid hvu; clear hvu hv64
            go_wp2
            refine Txt.wp_txt (by kernel_rfl) (by kernel_rfl) ?_
            go_wp2
            refine Txt.DrawPost.mk0 (by rfl) ?_
            go_wp2
            refine Txt.wp_txt (by kernel_rfl) (by kernel_rfl) ?_
            go_wp2
            refine Txt.DrawPost.mk0 (by rfl) ?_
            go_wp2
            all_goals
              go_roundw
              case rel => exact ⟨k + 1, v, by go_num, rfl, by omega, Hvu.out, Hpos.out.1, Hkp.out.trans Hpos.out.2 (fun f hf => .inl hf), by rw [Hrd.out, Hl.out]; rfl⟩
              case measure => simp [intOf]; omega
      · obtain rfl : k = 9 := by omega
        by_cases hbad : 1 < x ∨ x = 0
        · have Hbad := Lib.hid (rdU_bad (u := u) hab (k := 9) (by rw [Hx.out]; omega))
          rcases hbad with hbad | hbad
          · have hbad' : 1 < (x : Int) := by omega
            go_wp2
            refine Txt.wp_txt (by kernel_rfl) (by kernel_rfl) ?_
            go_wp2
            refine Txt.DrawPost.mk0 (by rfl) ?_
            go_wp2
            refine Txt.wp_txt (by kernel_rfl) (by kernel_rfl) ?_
            go_wp2
            refine Txt.DrawPost.mk0 (by rfl) ?_
            go_wp2
            go_ret2
            exact IntR.none (Hrd.out.trans Hbad.out) Hpos.out.1 (Hkp.out.trans Hpos.out.2 (fun f hf => .inl hf)) (by omega)
          · subst hbad
            go_wp2
            refine Txt.wp_txt (by kernel_rfl) (by kernel_rfl) ?_
            go_wp2
            refine Txt.DrawPost.mk0 (by rfl) ?_
            go_wp2
            refine Txt.wp_txt (by kernel_rfl) (by kernel_rfl) ?_
            go_wp2
            refine Txt.DrawPost.mk0 (by rfl) ?_
            go_wp2
            go_ret2
            exact IntR.none (Hrd.out.trans Hbad.out) Hpos.out.1 (Hkp.out.trans Hpos.out.2 (fun f hf => .inl hf)) (by omega)
        · have hx1' : (x : Int) ≤ 1 := by omega
          have hx0' : ((x : Int) == 0) = false := by simp; omega
          have hx128 : (x : Int) < 128 := by omega
          have hor := or_sum (u := u) (x := x) (k := 9) (by omega) Hu.out (by omega) (fun e => by omega)
          obtain ⟨v, hv⟩ : ∃ v, u + x % 128 * 128 ^ 9 = v := ⟨_, rfl⟩
          rw [hv] at hor
          obtain ⟨hv64, hor⟩ := hor
          rw [int63] at hor
          have Hv := Lib.hid hv; clear hv
          have hl := rdU_last (u := u) hab (by omega) (fun h => by rw [Hx.out] at h; omega) (fun h => by rw [Hx.out] at h; omega) (by rw [Hx.out]; omega)
          rw [Hx.out, show x * 128 ^ 9 = x % 128 * 128 ^ 9 by rw [Nat.mod_eq_of_lt (by omega)], Hv.out] at hl
          have Hl := Lib.hid hl; clear hl
          have hbit := and_one hv64
          have Hv64 := Lib.hid hv64; clear hv64 hbad
          rcases Nat.mod_two_eq_zero_or_one v with hpar | hpar
          · rw [hpar] at hbit
            have Hpar := Lib.hid hpar; clear hpar
            go_wp2
            refine Txt.wp_txt (by kernel_rfl) (by kernel_rfl) ?_
            go_wp2
            refine Txt.DrawPost.mk0 (by rfl) ?_
            go_wp2
            refine Txt.wp_txt (by kernel_rfl) (by kernel_rfl) ?_
            go_wp2
            refine Txt.DrawPost.mk0 (by rfl) ?_
            go_wp2
            go_ret2
            have q1 := Hrd.out.trans Hl.out
            have q3 := Hkp.out.trans Hpos.out.2 (fun f hf => .inl hf)
            have q4 := zag_even Hpar.out Hv64.out
            exact IntR.some q1 Hpos.out.1 q3 q4 (by omega)
          · rw [hpar] at hbit
            have Hpar := Lib.hid hpar; clear hpar
            go_wp2
            refine Txt.wp_txt (by kernel_rfl) (by kernel_rfl) ?_
            go_wp2
            refine Txt.DrawPost.mk0 (by rfl) ?_
            go_wp2
            refine Txt.wp_txt (by kernel_rfl) (by kernel_rfl) ?_
            go_wp2
            refine Txt.DrawPost.mk0 (by rfl) ?_
            go_wp2
            go_ret2
            have q1 := Hrd.out.trans Hl.out
            have q3 := Hkp.out.trans Hpos.out.2 (fun f hf => .inl hf)
            have q4 := zag_odd2 Hpar.out Hv64.out
            exact IntR.some q1 Hpos.out.1 q3 q4 (by omega)
    · have hnone : rdU (b.drop (at_ + k)) k u = none := by
        by_cases hk10 : k = 10
        · subst hk10; exact rdU_ten
        · exact rdU_nil (by omega)
      have Hnone := Lib.hid hnone; clear hnone
      have hcase : k = 10 ∨ (k < 10 ∧ b.length = at_ + k) := by omega
      rcases hcase with rfl | ⟨hk10, hbe⟩
      · go_wp2
        refine Txt.wp_txt (by kernel_rfl) (by kernel_rfl) ?_
        go_wp2
        refine Txt.DrawPost.mk0 (by rfl) ?_
        go_wp2
        go_ret2
        exact IntR.none (Hrd.out.trans Hnone.out) Hr.out.drew Hkp.out.drew (by omega)
      · have hk10' : (k : Int) < 10 := by omega
        have hbe' : (b.length : Int) ≤ (at_ : Int) + k := by omega
        go_wp2
        refine Txt.wp_txt (by kernel_rfl) (by kernel_rfl) ?_
        go_wp2
        refine Txt.DrawPost.mk0 (by rfl) ?_
        go_wp2
        go_ret2
        exact IntR.none (Hrd.out.trans Hnone.out) Hr.out.drew Hkp.out.drew (by omega)
end Go.Proofs.Yteefimjgcabpoaa
