/- The wire's readers: the reference's peek -/
import Derived.Test.YteefimjgcabpoaaWh
namespace Go.Wi
open Go Go.RowKit Go.Bs Go.Cl Go.Rw
def M64 : Nat := 18446744073709551616
theorem rdU_cont {b : List UInt8} {p k u : Nat} (hp : p < b.length) (hk : k < 10) (h3 : 128 ≤ b[p].toNat) : rdU (b.drop p) k u = rdU (b.drop (p + 1)) (k + 1) (u + (b[p].toNat % 128) * 128 ^ k) := by
  by_cases h9 : k = 9
  · subst h9
    rw [rdU_bad hp (.inl ⟨rfl, by omega⟩), rdU_ten]
  · exact rdU_more hp hk (fun h => h9 h.1) h3
/-- what peek says of an integer n that it has read from k + 1 bytes: the sum s, modulo 2^64 -/
def okP (b : List UInt8) (at_ k : Nat) (n : Int) : Bool := decide ((encI n).length = k + 1) && pre (encI n) (b.drop at_)
theorem okP_some {b : List UInt8} {at_ k v : Nat} (h : rdU (b.drop at_) 0 0 = some (v, k + 1)) : v < M64 ∧ okP b at_ k (zag v) = true := by
  obtain ⟨_, v', rfl, hv, _, hl, t, ht⟩ := rdU_out _ _ _ _ _ h
  simp only [Nat.zero_add, Nat.pow_zero, Nat.mul_one] at hl ⊢
  refine ⟨by simpa [M64] using hv, ?_⟩
  unfold okP
  rw [Bool.and_eq_true]
  refine ⟨by simp [encI, zig_zag]; omega, ?_⟩
  rw [pre_iff, encI, zig_zag]
  exact ⟨t, ht⟩
theorem okP_none {b : List UInt8} {at_ k : Nat} {n : Int} (h : rdU (b.drop at_) 0 0 = none) (hn : fits n) : okP b at_ k n = false := by
  unfold okP
  rw [Bool.and_eq_false_iff]
  refine .inr ?_
  cases hp : pre (encI n) (b.drop at_) with
  | false => rfl
  | true =>
    obtain ⟨t, ht⟩ := pre_iff.1 hp
    rw [ht, encI, rdU_groups _ 0 0 t (by omega) (zig_lt hn) (.inl rfl)] at h
    cases h
/-- how peek makes the number out of the sum -/
theorem peek_even {U : Nat} (h : U % 2 = 0) (hU : U < 18446744073709551616) : (U : Int).tmod 2 = 0 ∧ ∃ m : Int, IntKind.u64.wrap ((U : Int) / 2) = m ∧ wrap64 m = zag U := by
  refine ⟨?_, _, rfl, ?_⟩
  · have : (U : Int).tmod 2 = ((U % 2 : Nat) : Int) := rfl
    omega
  · have e : IntKind.u64.wrap ((U : Int) / 2) = (U : Int) / 2 := by rw [IntKind.wrap_u64]; omega
    rw [e]; exact zag_even h hU
theorem peek_odd {U : Nat} (h : U % 2 = 1) (hU : U < 18446744073709551616) : (U : Int).tmod 2 = 1 ∧ ∃ m m2 m3 : Int, IntKind.u64.wrap ((U : Int) / 2) = m ∧ wrap64 m = m2 ∧ wrap64 (-m2) = m3 ∧ wrap64 (m3 - 1) = zag U := by
  refine ⟨?_, _, _, _, rfl, rfl, rfl, ?_⟩
  · have : (U : Int).tmod 2 = ((U % 2 : Nat) : Int) := rfl
    omega
  · have e : IntKind.u64.wrap ((U : Int) / 2) = ((U / 2 : Nat) : Int) := by rw [IntKind.wrap_u64]; omega
    rw [e, ← zag_odd h]
    have e2 : wrap64 ((U / 2 : Nat) : Int) = ((U / 2 : Nat) : Int) := by rw [wrap64]; omega
    rw [e2]
    have e3 : wrap64 (-((U / 2 : Nat) : Int)) = -((U / 2 : Nat) : Int) := by rw [wrap64]; omega
    rw [e3, wrap64]
    omega
/-- what peek returns -/
def IsP (b : List UInt8) (at_ : Nat) (n : Int) (ok : Bool) : Prop := match rdI b at_ with | some (x, _) => n = x ∧ ok = true | none => ok = false
/-- the last step -/
theorem IsP.last {b : List UInt8} {at_ k s : Nat} (hab : at_ + k < b.length) (hk : k < 10) (hrd : rdU (b.drop at_) 0 0 = rdU (b.drop (at_ + k)) k s) (hx : b[at_ + k].toNat < 128) :
    IsP b at_ (zag ((s + b[at_ + k].toNat * 128 ^ k) % M64)) (okP b at_ k (zag ((s + b[at_ + k].toNat * 128 ^ k) % M64))) := by
  by_cases hbad : (k = 9 ∧ 1 < b[at_ + k].toNat) ∨ (0 < k ∧ b[at_ + k].toNat = 0)
  · rw [rdU_bad hab hbad] at hrd
    have hn : fits (zag ((s + b[at_ + k].toNat * 128 ^ k) % M64)) := zag_fits (by unfold M64; exact Nat.mod_lt _ (by decide))
    unfold IsP
    rw [okP_none hrd hn]
    unfold rdI
    rw [hrd]
    trivial
  · rw [rdU_last hab hk (fun h => hbad (.inl h)) (fun h => hbad (.inr h)) hx] at hrd
    obtain ⟨h1, h2⟩ := okP_some hrd
    rw [Nat.mod_eq_of_lt h1, h2]
    unfold IsP rdI
    rw [hrd]
    exact ⟨rfl, rfl⟩
theorem mod_step {s x P : Nat} : (s % M64 + x * (P % M64)) % M64 = (s + x * P) % M64 := by
  rw [Nat.add_mod, Nat.mod_mod, Nat.mul_mod, Nat.mod_mod, ← Nat.mul_mod, ← Nat.add_mod]
end Go.Wi
namespace Go.Proofs.Yteefimjgcabpoaa
open Go.RowKit Go.Bs Go.Cl Go.Rw Go.Wi
set_option maxRecDepth 100000 in
set_option maxHeartbeats 4000000 in
theorem rpeek_any (g : Nat) (bv : Value) (b : List UInt8) (at_ : Nat) (fl : Bool) (w : World) (h : RdAt 86 w g bv b at_ fl) (hbl : b.length ≤ 1000000) :
    Calls Try.prog 66 #[.pointer (some ⟨g, 0, none⟩)] w fun e w' => ∃ n ok, e = .returned (.tuple #[.int .i64 n, .bool ok]) ∧ IsP b at_ n ok ∧ Below w.heap.size w w' := by
  obtain ⟨ba, bc, rfl⟩ := Raw.slice h.hb
  have ha := h.ha
  have H := Lib.hid h; clear h
  go_enter Try.func66, Try.ntmps66
  go_wp2
  go_loopw [4, 5, 6] (fun uv pv kv wr => ∃ (k s : Nat), kv = .int .i64 k ∧ uv = .int .u64 ((s % M64 : Nat) : Int) ∧ pv = .int .u64 ((128 ^ k % M64 : Nat) : Int) ∧ k ≤ 10 ∧ at_ + k ≤ b.length ∧ Below w.heap.size w wr ∧ rdU (b.drop at_) 0 0 = rdU (b.drop (at_ + k)) k s) (fun _ _ kv _ => 10 - (intOf kv).toNat)
  case atStart => exact ⟨0, 0, rfl, rfl, rfl, by omega, by omega, Below.refl _ _, rfl⟩
  case round =>
    obtain ⟨k, s, rfl, rfl, rfl, hk, hal, hbel, hrd⟩ := hrel
    have hr := H.out.below hbel
    have Hrd := Lib.hid hrd; clear hrd
    obtain ⟨U, hU⟩ : ∃ U, s % M64 = U := ⟨_, rfl⟩
    obtain ⟨Pl, hPl⟩ : ∃ P, 128 ^ k % M64 = P := ⟨_, rfl⟩
    rw [hU, hPl]
    have HU := Lib.hid hU; have HPl := Lib.hid hPl
    clear hU hPl
    have c0 : wr.cell? ⟨g, 0, none⟩ = some (.slice ba b.length bc) := box_at hr.hc rfl
    have c1 : wr.cell? ⟨g, 1, none⟩ = some (.int .i64 at_) := box_at hr.hc rfl
    have hsum : ((at_ + k : Nat) : Int) = (at_ : Int) + k := by omega
    by_cases hin : k < 10 ∧ at_ + k < b.length
    · obtain ⟨hk10, hab⟩ := hin
      obtain ⟨q, off, c, hbe, hcell⟩ := hr.byte hab
      cases hbe
      obtain ⟨x, hx⟩ : ∃ x, b[at_ + k].toNat = x := ⟨_, rfl⟩
      have hx256 : x < 256 := by rw [← hx]; exact UInt8.toNat_lt _
      unfold byteV at hcell
      rw [hx] at hcell
      have hk10' : (k : Int) < 10 := by omega
      have hab' : (at_ : Int) + k < b.length := by omega
      have hx0 : 0 ≤ (x : Int) := by omega
      have hx1 : (x : Int) < 256 := by omega
      have Hx := Lib.hid hx; clear hx
      have Hr := Lib.hid hr; clear hr
      obtain ⟨U', hU'⟩ : ∃ U', (s + x % 128 * 128 ^ k) % M64 = U' := ⟨_, rfl⟩
      obtain ⟨Pl', hPl'⟩ : ∃ P, 128 ^ (k + 1) % M64 = P := ⟨_, rfl⟩
      have e1 : IntKind.u64.wrap ((U : Int) + IntKind.u64.wrap ((x : Int) % 128 * Pl)) = (U' : Int) := by
        rw [← hU', ← mod_step, HU.out, HPl.out, IntKind.wrap_u64, IntKind.wrap_u64]
        unfold M64
        have : (x : Int) % 128 * Pl = ((x % 128 * Pl : Nat) : Int) := by simp
        rw [this]
        omega
      have e2 : IntKind.u64.wrap ((Pl : Int) * 128) = (Pl' : Int) := by
        rw [← hPl', Nat.pow_succ, Nat.mul_mod, HPl.out, IntKind.wrap_u64]
        unfold M64
        omega
      have E1 := Lib.hid e1; have E2 := Lib.hid e2
      have HU' := Lib.hid hU'; have HPl' := Lib.hid hPl'
      clear e1 e2 hU' hPl'
      by_cases hlast : x < 128
      · have hlast' : (x : Int) < 128 := by omega
        have hfin := IsP.last hab hk10 Hrd.out (by rw [Hx.out]; exact hlast)
        rw [Hx.out, show x * 128 ^ k = x % 128 * 128 ^ k by rw [Nat.mod_eq_of_lt hlast], HU'.out] at hfin
        have Hfin := Lib.hid hfin
        have hU64 : U' < 18446744073709551616 := by rw [← HU'.out]; exact Nat.mod_lt _ (by decide)
        have hnf : Wi.fits (zag U') := zag_fits hU64
        have Hnf := Lib.hid hnf
        clear hfin hnf
        have e1 := E1.out
        have e2 := E2.out
        obtain ⟨n, hn⟩ : ∃ n, zag U' = n := ⟨_, rfl⟩
        rcases Nat.mod_two_eq_zero_or_one U' with hpar | hpar
        · obtain ⟨r1, m, r2, r3⟩ := peek_even hpar hU64
          rw [hn] at Hfin Hnf r3
          clear hpar hU64 hn
          go_wp2
          refine Txt.wp_txt (by kernel_rfl) (by kernel_rfl) ?_
          go_wp2
          refine Txt.DrawPost.mk0 (by rfl) ?_
          go_wp2
          refine Txt.wp_txt (by kernel_rfl) (by kernel_rfl) ?_
          go_wp2
          refine Txt.DrawPost.mk0 (by rfl) ?_
          go_wp2_with fail
          have hbel1 := hbel.drew.drew
          refine (rint_any n _ Hnf.out).mono ?_
          rintro e w1 ⟨v1, rfl, hr1, hb1⟩
          obtain ⟨a1, c1', rfl⟩ := own_slice hr1
          have hbelB := hbel1.trans (hb1.mono hbel1.size)
          have hnl := encI_len Hnf.out
          have Hnl := Lib.hid hnl
          obtain ⟨L, hL⟩ : ∃ L, (encI n).length = L := ⟨_, rfl⟩
          rw [hL]
          have HL := Lib.hid hL
          clear hr1 hb1 hL hnl
          by_cases hlen : L = k + 1
          · subst hlen
            have Hfin2 : Hid (IsP b at_ n (pre (encI n) (b.drop at_))) := Lib.hid (by have := Hfin.out; unfold okP at this; rw [HL.out] at this; simpa using this)
            go_wp2_with fail
            refine (rint_any n _ Hnf.out).mono ?_
            rintro e w2 ⟨v2, rfl, hr2, hb2⟩
            have hbelC := hbelB.trans (hb2.mono hbelB.size)
            have HX := Lib.hid (BRow.bytes (F := []) hr2 (fun f hf => by cases hf))
            obtain ⟨a2, c2', rfl⟩ := own_slice hr2
            clear hr2 hb2
            go_wp2_with fail
            refine (rbegins_any g _ _ b (encI n) at_ fl _ (H.out.below hbelC) hbl HX.out (by have := Hnl.out; omega)).mono ?_
            rintro e w3 ⟨rfl, hb3⟩
            have hbelD := hbelC.trans (hb3.mono hbelC.size)
            clear hb3
            go_wp2
            go_ret2
            exact ⟨n, _, rfl, Hfin2.out, hbelD⟩
          · have hne : ((L : Int) == (k : Int) + 1) = false := by simp; omega
            have Hfin2 : Hid (IsP b at_ n false) := Lib.hid (by have := Hfin.out; unfold okP at this; rw [HL.out] at this; simpa [hlen] using this)
            go_wp2
            go_ret2
            exact ⟨n, false, rfl, Hfin2.out, hbelB⟩
        · obtain ⟨r1, m, m2, m3, r2, r3, r4, r5⟩ := peek_odd hpar hU64
          rw [hn] at Hfin Hnf r5
          clear hpar hU64 hn
          go_wp2
          refine Txt.wp_txt (by kernel_rfl) (by kernel_rfl) ?_
          go_wp2
          refine Txt.DrawPost.mk0 (by rfl) ?_
          go_wp2
          refine Txt.wp_txt (by kernel_rfl) (by kernel_rfl) ?_
          go_wp2
          refine Txt.DrawPost.mk0 (by rfl) ?_
          go_wp2_with fail
          have hbel1 := hbel.drew.drew
          refine (rint_any n _ Hnf.out).mono ?_
          rintro e w1 ⟨v1, rfl, hr1, hb1⟩
          obtain ⟨a1, c1', rfl⟩ := own_slice hr1
          have hbelB := hbel1.trans (hb1.mono hbel1.size)
          have hnl := encI_len Hnf.out
          have Hnl := Lib.hid hnl
          obtain ⟨L, hL⟩ : ∃ L, (encI n).length = L := ⟨_, rfl⟩
          rw [hL]
          have HL := Lib.hid hL
          clear hr1 hb1 hL hnl
          by_cases hlen : L = k + 1
          · subst hlen
            have Hfin2 : Hid (IsP b at_ n (pre (encI n) (b.drop at_))) := Lib.hid (by have := Hfin.out; unfold okP at this; rw [HL.out] at this; simpa using this)
            go_wp2_with fail
            refine (rint_any n _ Hnf.out).mono ?_
            rintro e w2 ⟨v2, rfl, hr2, hb2⟩
            have hbelC := hbelB.trans (hb2.mono hbelB.size)
            have HX := Lib.hid (BRow.bytes (F := []) hr2 (fun f hf => by cases hf))
            obtain ⟨a2, c2', rfl⟩ := own_slice hr2
            clear hr2 hb2
            go_wp2_with fail
            refine (rbegins_any g _ _ b (encI n) at_ fl _ (H.out.below hbelC) hbl HX.out (by have := Hnl.out; omega)).mono ?_
            rintro e w3 ⟨rfl, hb3⟩
            have hbelD := hbelC.trans (hb3.mono hbelC.size)
            clear hb3
            go_wp2
            go_ret2
            exact ⟨n, _, rfl, Hfin2.out, hbelD⟩
          · have hne : ((L : Int) == (k : Int) + 1) = false := by simp; omega
            have Hfin2 : Hid (IsP b at_ n false) := Lib.hid (by have := Hfin.out; unfold okP at this; rw [HL.out] at this; simpa [hlen] using this)
            go_wp2
            go_ret2
            exact ⟨n, false, rfl, Hfin2.out, hbelB⟩
      · have hlast' : 128 ≤ (x : Int) := by omega
        have hcont := rdU_cont (u := s) hab hk10 (by rw [Hx.out]; omega)
        rw [Hx.out] at hcont
        have Hc := Lib.hid hcont; clear hcont
        go_wp2
        refine Txt.wp_txt (by kernel_rfl) (by kernel_rfl) ?_
        go_wp2
        refine Txt.DrawPost.mk0 (by rfl) ?_
        go_wp2
        refine Txt.wp_txt (by kernel_rfl) (by kernel_rfl) ?_
        go_wp2
        refine Txt.DrawPost.mk0 (by rfl) ?_
        go_wp2
        go_roundw
        case rel => exact ⟨k + 1, s + x % 128 * 128 ^ k, by go_num, by rw [E1.out, HU'.out], by rw [E2.out, HPl'.out], by omega, by omega, hbel.drew.drew, Hrd.out.trans Hc.out⟩
        case measure => simp [intOf]; omega
    · have hnone : rdU (b.drop (at_ + k)) k s = none := by
        by_cases hk10 : k = 10
        · subst hk10; exact rdU_ten
        · exact rdU_nil (by omega)
      have Hnone := Lib.hid (show IsP b at_ 0 false by unfold IsP rdI; rw [Hrd.out, hnone]; rfl)
      clear hnone hr
      have hcase : k = 10 ∨ (k < 10 ∧ b.length = at_ + k) := by omega
      rcases hcase with rfl | ⟨hk10, hbe⟩
      · go_wp2
        refine Txt.wp_txt (by kernel_rfl) (by kernel_rfl) ?_
        go_wp2
        refine Txt.DrawPost.mk0 (by rfl) ?_
        go_wp2
        go_ret2
        exact ⟨0, false, rfl, Hnone.out, hbel.drew⟩
      · have hk10' : (k : Int) < 10 := by omega
        have hbe' : (b.length : Int) ≤ (at_ : Int) + k := by omega
        go_wp2
        refine Txt.wp_txt (by kernel_rfl) (by kernel_rfl) ?_
        go_wp2
        refine Txt.DrawPost.mk0 (by rfl) ?_
        go_wp2
        go_ret2
        exact ⟨0, false, rfl, Hnone.out, hbel.drew⟩
end Go.Proofs.Yteefimjgcabpoaa
