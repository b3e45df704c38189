/- The wire's integers: the program's encoder -/
import Derived.Test.YteefimjgcabpoaaRows
import Derived.Test.YteefimjgcabpoaaWa
namespace Go.Proofs.Yteefimjgcabpoaa
open Go.RowKit Go.Bs Go.Cl Go.Rw Go.Wi
theorem elB : Rw.Elem Try.prog 22 5 1 1 (.int .u8 0) := ⟨Try.underlying22, by kernel_rfl, rfl, by decide⟩
set_option maxRecDepth 100000 in
set_option maxHeartbeats 1000000 in
theorem wint_any (v : Value) (l : List UInt8) (n : Int) (base : Nat) (w : World) (hn : Wi.fits n) (hl : l.length ≤ 1000000) (hown : BRow 5 w base v l) (hbase : base ≤ w.heap.size) :
    Calls Try.prog 52 #[v, .int .i64 n] w fun e w' => ∃ v', e = .returned v' ∧ Grows 5 w w' base v v' (l ++ encI n) := by
  obtain ⟨a, c, rfl⟩ := own_slice hown
  have hz : zig n < 18446744073709551616 := zig_lt hn
  have hz10 := encI_len hn
  have Hown := Lib.hid (Grows.refl hown); clear hown
  obtain ⟨z, hze⟩ : ∃ z, zig n = z := ⟨_, rfl⟩
  have hzz : (n < 0 ∧ (z : Int) = -2 * n - 1) ∨ (0 ≤ n ∧ n * 2 = (z : Int)) := by
    rw [← hze]; unfold zig
    by_cases h : n < 0
    · rw [if_pos h]; exact .inl ⟨h, by omega⟩
    · rw [if_neg h]; exact .inr ⟨by omega, by omega⟩
  have henc : encI n = groups z := by rw [encI, hze]
  rw [hze] at hz
  clear hze
  rw [henc] at hz10 ⊢
  obtain ⟨hn1, hn2⟩ := hn
  clear henc
  rcases hzz with ⟨h0, hzz⟩ | ⟨h0, hzz⟩
  · have hx := Lib.hid (zig_neg h0 hn1 hzz)
    have Hz := Lib.hid hz
    clear hzz hz
    go_enter Try.func52, Try.ntmps52
    go_wp2
    rw [hx.out]
    go_loopw [0, 5] (fun bv uv wr => ∃ (acc : List UInt8) (u : Nat), uv = .int .u64 u ∧ u < 18446744073709551616 ∧ acc ++ groups u = groups z ∧ Grows 5 w wr base (.slice a l.length c) bv (l ++ acc)) (fun _ uv _ => (intOf uv).toNat)
    case atStart => exact ⟨[], z, rfl, Hz.out, rfl, by simpa using Hown.out⟩
    case round =>
      obtain ⟨acc, u, rfl, hu, hacc, hg⟩ := hrel
      have hal : acc.length ≤ 10 := by have := congrArg List.length hacc; simp at this; omega
      have hbw : base ≤ wr.heap.size := Nat.le_trans hbase hg.keep.size
      obtain ⟨la, hla⟩ : ∃ la, l ++ acc = la := ⟨_, rfl⟩
      have hlal : la.length ≤ 1000010 := by rw [← hla]; simp; omega
      rw [hla] at hg
      have Hla := Lib.hid hla; clear hla
      obtain ⟨ga, gc, rfl⟩ := own_slice hg.row
      have Hg := Lib.hid hg; clear hg
      have Hacc := Lib.hid hacc; clear hacc
      have huI : (u : Int) < 18446744073709551616 := by omega
      by_cases h8 : 128 ≤ u
      · have h8' : 128 ≤ (u : Int) := by omega
        have hgr := groups_ge h8
        have Hgr := Lib.hid hgr; clear hgr
        obtain ⟨cb, hcb⟩ : ∃ cb : UInt8, UInt8.ofNat (128 + u % 128) = cb := ⟨_, rfl⟩
        have hcn : cb.toNat = 128 + u % 128 := by rw [← hcb]; exact u8_of (by omega)
        rw [hcb] at Hgr
        have HX := Lib.hid (one_byte (w := wr.alloc (.cells #[.int .u8 (128 + (u : Int) % 128)] 5)) (e := 5) (u := .int .u8 (128 + (u : Int) % 128)) cb (by unfold byteV; rw [hcn]; congr 1) (heap_alloc_new wr _))
        clear hcn hcb
        have HR := Lib.hid (Hg.out.row.alloc (.cells #[.int .u8 (128 + (u : Int) % 128)] 5))
        go_wp2_with (at_builtin; refine wpList_appF elB Try.underlying22 HR.out HX.out (Below.refl 0 _) rfl _ _ rfl rfl rfl ?c3 ?cB ?c5 ?_)
        case c3 => omega
        case cB => omega
        case c5 => simp; omega
        intro v2 w2 hown2 _ hk2 hn2
        have hg2 := Hg.out.app rfl hown2 hk2 (by simpa using hn2)
        rw [← Hla.out, List.append_assoc] at hg2
        have Hg2 := Lib.hid hg2
        clear hg2 hown2 hk2 hn2
        go_wp2
        go_roundw
        case rel => exact ⟨acc ++ [cb], u / 128, by go_num, by omega, by rw [List.append_assoc, ← Hacc.out, Hgr.out]; rfl, Hg2.out⟩
        case measure => simp [intOf]; omega
      · have h8' : (u : Int) < 128 := by omega
        clear huI hu
        have hgr := groups_lt (show u < 128 by omega)
        have Hgr := Lib.hid hgr; clear hgr
        obtain ⟨cb, hcb⟩ : ∃ cb : UInt8, UInt8.ofNat u = cb := ⟨_, rfl⟩
        have hcn : cb.toNat = u := by rw [← hcb]; exact u8_of (by omega)
        rw [hcb] at Hgr
        have HX := Lib.hid (one_byte (w := wr.alloc (.cells #[.int .u8 (u : Int)] 5)) (e := 5) (u := .int .u8 (u : Int)) cb (by unfold byteV; rw [hcn]) (heap_alloc_new wr _))
        clear hcn hcb
        have HR := Lib.hid (Hg.out.row.alloc (.cells #[.int .u8 (u : Int)] 5))
        go_wp2_with (at_builtin; refine wpList_appF elB Try.underlying22 HR.out HX.out (Below.refl 0 _) rfl _ _ rfl rfl rfl ?c3 ?cB ?c5 ?_)
        case c3 => omega
        case cB => omega
        case c5 => simp; omega
        intro v2 w2 hown2 _ hk2 hn2
        have hg2 := Hg.out.app rfl hown2 hk2 (by simpa using hn2)
        rw [← Hla.out, List.append_assoc, show acc ++ [cb] = groups z by rw [← Hgr.out]; exact Hacc.out] at hg2
        have Hg2 := Lib.hid hg2
        clear hg2 hown2 hk2 hn2
        go_wp2
        go_ret
        exact ⟨_, rfl, Hg2.out⟩
  · have h0' : ¬ n < 0 := by omega
    have Hz := Lib.hid hz
    clear hz
    go_enter Try.func52, Try.ntmps52
    go_wp2
    go_loopw [0, 5] (fun bv uv wr => ∃ (acc : List UInt8) (u : Nat), uv = .int .u64 u ∧ u < 18446744073709551616 ∧ acc ++ groups u = groups z ∧ Grows 5 w wr base (.slice a l.length c) bv (l ++ acc)) (fun _ uv _ => (intOf uv).toNat)
    case atStart => exact ⟨[], z, rfl, Hz.out, rfl, by simpa using Hown.out⟩
    case round =>
      obtain ⟨acc, u, rfl, hu, hacc, hg⟩ := hrel
      have hal : acc.length ≤ 10 := by have := congrArg List.length hacc; simp at this; omega
      have hbw : base ≤ wr.heap.size := Nat.le_trans hbase hg.keep.size
      obtain ⟨la, hla⟩ : ∃ la, l ++ acc = la := ⟨_, rfl⟩
      have hlal : la.length ≤ 1000010 := by rw [← hla]; simp; omega
      rw [hla] at hg
      have Hla := Lib.hid hla; clear hla
      obtain ⟨ga, gc, rfl⟩ := own_slice hg.row
      have Hg := Lib.hid hg; clear hg
      have Hacc := Lib.hid hacc; clear hacc
      have huI : (u : Int) < 18446744073709551616 := by omega
      by_cases h8 : 128 ≤ u
      · have h8' : 128 ≤ (u : Int) := by omega
        have hgr := groups_ge h8
        have Hgr := Lib.hid hgr; clear hgr
        obtain ⟨cb, hcb⟩ : ∃ cb : UInt8, UInt8.ofNat (128 + u % 128) = cb := ⟨_, rfl⟩
        have hcn : cb.toNat = 128 + u % 128 := by rw [← hcb]; exact u8_of (by omega)
        rw [hcb] at Hgr
        have HX := Lib.hid (one_byte (w := wr.alloc (.cells #[.int .u8 (128 + (u : Int) % 128)] 5)) (e := 5) (u := .int .u8 (128 + (u : Int) % 128)) cb (by unfold byteV; rw [hcn]; congr 1) (heap_alloc_new wr _))
        clear hcn hcb
        have HR := Lib.hid (Hg.out.row.alloc (.cells #[.int .u8 (128 + (u : Int) % 128)] 5))
        go_wp2_with (at_builtin; refine wpList_appF elB Try.underlying22 HR.out HX.out (Below.refl 0 _) rfl _ _ rfl rfl rfl ?c3 ?cB ?c5 ?_)
        case c3 => omega
        case cB => omega
        case c5 => simp; omega
        intro v2 w2 hown2 _ hk2 hn2
        have hg2 := Hg.out.app rfl hown2 hk2 (by simpa using hn2)
        rw [← Hla.out, List.append_assoc] at hg2
        have Hg2 := Lib.hid hg2
        clear hg2 hown2 hk2 hn2
        go_wp2
        go_roundw
        case rel => exact ⟨acc ++ [cb], u / 128, by go_num, by omega, by rw [List.append_assoc, ← Hacc.out, Hgr.out]; rfl, Hg2.out⟩
        case measure => simp [intOf]; omega
      · have h8' : (u : Int) < 128 := by omega
        clear huI hu
        have hgr := groups_lt (show u < 128 by omega)
        have Hgr := Lib.hid hgr; clear hgr
        obtain ⟨cb, hcb⟩ : ∃ cb : UInt8, UInt8.ofNat u = cb := ⟨_, rfl⟩
        have hcn : cb.toNat = u := by rw [← hcb]; exact u8_of (by omega)
        rw [hcb] at Hgr
        have HX := Lib.hid (one_byte (w := wr.alloc (.cells #[.int .u8 (u : Int)] 5)) (e := 5) (u := .int .u8 (u : Int)) cb (by unfold byteV; rw [hcn]) (heap_alloc_new wr _))
        clear hcn hcb
        have HR := Lib.hid (Hg.out.row.alloc (.cells #[.int .u8 (u : Int)] 5))
        go_wp2_with (at_builtin; refine wpList_appF elB Try.underlying22 HR.out HX.out (Below.refl 0 _) rfl _ _ rfl rfl rfl ?c3 ?cB ?c5 ?_)
        case c3 => omega
        case cB => omega
        case c5 => simp; omega
        intro v2 w2 hown2 _ hk2 hn2
        have hg2 := Hg.out.app rfl hown2 hk2 (by simpa using hn2)
        rw [← Hla.out, List.append_assoc, show acc ++ [cb] = groups z by rw [← Hgr.out]; exact Hacc.out] at hg2
        have Hg2 := Lib.hid hg2
        clear hg2 hown2 hk2 hn2
        go_wp2
        go_ret
        exact ⟨_, rfl, Hg2.out⟩
end Go.Proofs.Yteefimjgcabpoaa
