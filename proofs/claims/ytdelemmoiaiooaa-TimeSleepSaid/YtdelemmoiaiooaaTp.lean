/- time: Step -/
import Derived.Test.YtdelemmoiaiooaaTo
namespace Go.Ti
open Go Go.RowKit Go.Bs Go.Cl Go.Rw Go.Wi
def stpT (b : List UInt8) (m : Ms) : Except Int (List Int × List Ef) := if (decT b).2 ≠ 0 then .error 4 else match takeT (decT b).1 m with
  | none => .error 23
  | some r => .ok r
def RetS (r : Except Int (List Int × List Ef)) (w : World) (e : Ending) (w' : World) : Prop := Below w.heap.size w w' ∧ match r with
  | .error c => e = .returned (.tuple #[.slice none 0 0, .slice none 0 0, .int .i64 c])
  | .ok (l, es) => ∃ iv ev, e = .returned (.tuple #[iv, ev, .int .i64 0]) ∧ BRow 5 w' w.heap.size iv (encS l) ∧ SlE w' ev es
theorem dec_len (b : List UInt8) : (decT b).1.length ≤ 16 := by
  rcases dec_cases b with ⟨_, _, h⟩ | h
  · exact valid_len h
  · rw [h]; simp
theorem tk_len {l l' : List Int} {m : Ms} {es : List Ef} (h : takeT l m = some (l', es)) : l'.length ≤ l.length + 1 := by
  unfold takeT sysT at h
  repeat' split at h
  all_goals first
    | (cases h; done)
    | (cases h; omega)
    | (cases h; rw [insT_len]; omega)
    | (cases h; unfold delT; have := List.length_filter_le (fun x => !decide (x = m.a0)) l; omega)
end Go.Ti
namespace Go.Proofs.Ytdelemmoiaiooaa
open Go.RowKit Go.Bs Go.Cl Go.Rw Go.Ti Go.Wi Go.Sort Go.So
set_option maxRecDepth 100000 in
set_option maxHeartbeats 4000000 in
theorem step_any (iv dv : Value) (b : List UInt8) (m : Ms) (w : World) (hI : Bytes [] w iv b) (hbl : b.length ≤ 1000000) (hd : ∃ a n c, dv = .slice a n c) :
    Calls Try.prog 11 #[iv, .agg (msgC m dv)] w (RetS (stpT b m) w) := by
  have Htk := Lib.hid (fun s base v l w hl h => take_any s base v dv l m w hl h hd)
  obtain ⟨da, dn, dc, rfl⟩ := hd
  obtain ⟨ia, ic, rfl⟩ := Raw.slice hI
  obtain ⟨W, hW⟩ : ∃ W, W = w.alloc (.cells (msgC m (.slice da dn dc)) 28) := ⟨_, rfl⟩
  have hb : Below w.heap.size w W := by rw [hW]; exact (Below.refl w.heap.size w).alloc (Nat.le_refl _) _
  have hx : W.heap[w.heap.size]? = some (.cells (msgC m (.slice da dn dc)) 28 (0, 0)) := by rw [hW]; exact heap_alloc_new w _
  have HI := Lib.hid (Raw.below hI hb)
  have Hb := Lib.hid hb
  have Hx := Lib.hid hx
  have hws := hb.size
  have hxl := (Array.getElem?_eq_some_iff.1 hx).1
  have HW := Lib.hid hW
  clear hb hx hW hI
  obtain ⟨D, hD⟩ : ∃ D, decT b = D := ⟨_, rfl⟩
  have hdc := dec_cases b
  have hlen := dec_len b
  obtain ⟨S, hS⟩ : ∃ S, stpT b m = S := ⟨_, rfl⟩
  have hS' := hS
  unfold stpT at hS'
  rw [hD] at hdc hlen hS'
  rw [hS]
  obtain ⟨l, c⟩ := D
  simp only at hdc hlen hS'
  have HD := Lib.hid hD
  have HSS := Lib.hid hS'
  clear hD hS hS'
  unfold msgC at HW Htk Hx
  unfold msgC
  go_enter Try.func11, Try.ntmps11
  go_upto_region 1 with (fail)
  rw [← HW.out]
  clear HW
  go_wp2_with fail
  refine (decode_any _ b _ HI.out hbl).mono ?_
  rw [HD.out]
  rintro e w1 ⟨v, rfl, hrow, hb1⟩
  obtain ⟨va, vc, rfl⟩ := own_slice hrow
  have hs1 := hb1.size
  have Hb1 := Lib.hid (Hb.out.trans (hb1.mono hws))
  have Hx1 := Lib.hid ((hb1.block _ hxl).trans Hx.out)
  have hal := (Below.refl w1.heap.size w1).alloc (Nat.le_refl _) (.cells #[.slice va l.length vc] 37)
  have Hb2 := Lib.hid (Hb1.out.trans (hal.mono (by omega)))
  have Hx2 := Lib.hid ((hal.block w.heap.size (by omega)).trans Hx1.out)
  have HS2 : Hid (St (w1.alloc (.cells #[.slice va l.length vc] 37)) w.heap.size w1.heap.size (.slice va l.length vc) l) := Lib.hid ⟨heap_alloc_new w1 _, own_below (own_base hrow hws) hal (Nat.le_refl _), fun e => by have := (hrow.lt _ e).2; omega, by omega⟩
  clear hrow hb1 hal Hb1 Hx1
  obtain ⟨w2, hw2⟩ : ∃ w2, w2 = w1.alloc (.cells #[.slice va l.length vc] 37) := ⟨_, rfl⟩
  rw [← hw2] at Hb2 Hx2 HS2
  have HW2 := Lib.hid hw2
  have hs2 : w2.heap.size = w1.heap.size + 1 := by rw [hw2]; simp
  have HZ2 := Lib.hid hs2
  have hs2' : w1.heap.size < w2.heap.size := by omega
  clear hw2 hs2
  go_upto_region 2 with (fail)
  rw [← HW2.out]
  clear HW2 HZ2
  rcases hdc with ⟨rfl, _, hv⟩ | hbad
  rotate_left
  · injection hbad with h1 h2
    subst h2
    have HE : Hid (S = .error 4) := Lib.hid (by rw [← HSS.out]; rfl)
    clear h1
    go_wp2
    go_ret3
    rw [HE.out]
    exact ⟨Hb2.out, rfl⟩
  have HSt : Hid ((match takeT l m with | none => Except.error 23 | some r => .ok r) = S) := Lib.hid (by rw [← HSS.out]; rfl)
  have Hx3 := Hx2.out
  have c0 := box_at Hx2.out (j := 0) rfl
  have c1 := box_at Hx2.out (j := 1) rfl
  have c2 := box_at Hx2.out (j := 2) rfl
  have c3 := box_at Hx2.out (j := 3) rfl
  have c4 := box_at Hx2.out (j := 4) rfl
  have c5 := box_at Hx2.out (j := 5) rfl
  have c6 := box_at Hx2.out (j := 6) rfl
  have c7 := box_at Hx2.out (j := 7) rfl
  have c8 := box_at Hx2.out (j := 8) rfl
  have Hc := Lib.hid (Htk.out w1.heap.size w.heap.size _ l w2 (by omega) HS2.out)
  clear HSS
  go_wp2_with fail
  refine Hc.out.mono ?_
  rintro e w3 ⟨hb3, hres⟩
  have Hb3 := Lib.hid (Hb2.out.trans hb3)
  have hs3 := hb3.size
  clear c0 c1 c2 c3 c4 c5 c6 c7 c8
  have Hxx := HSt.out
  cases htk : takeT l m with
  | none =>
    rw [htk] at hres Hxx
    subst hres
    have HE : Hid (S = .error 23) := Lib.hid Hxx.symm
    clear hb3 Hxx htk HSt Hx3
    go_wp2
    go_ret3
    rw [HE.out]
    exact ⟨Hb3.out, rfl⟩
  | some r =>
    obtain ⟨l', es⟩ := r
    have hl' := tk_len htk
    rw [htk] at hres Hxx
    obtain ⟨ev, v', rfl, hE, hS3⟩ := hres
    have HE : Hid (S = .ok (l', es)) := Lib.hid Hxx.symm
    obtain ⟨ea, ec, rfl⟩ := Raw.slice hE
    obtain ⟨va', vc', rfl⟩ := own_slice hS3.row
    have HEf := Lib.hid hE
    have HS3 := Lib.hid hS3
    have s0 := box_at hS3.box (j := 0) rfl
    clear hb3 Hxx htk HSt Hx3 hE hS3
    go_wp2_with fail
    refine (encode_any _ l' _ (by omega) (SlT.of_own HS3.out.row)).mono ?_
    rintro e w4 ⟨v4, rfl, hrow4, hb4⟩
    obtain ⟨ia4, ic4, rfl⟩ := own_slice hrow4
    have hz3 := Hb3.out.size
    have Hrow4 := Lib.hid (own_base hrow4 hz3)
    have HE4 := Lib.hid (HEf.out.below hb4)
    have Hb4 := Lib.hid (Hb3.out.trans (hb4.mono hz3))
    clear hrow4 hb4
    go_wp2
    go_ret3
    rw [HE.out]
    exact ⟨Hb4.out, _, _, rfl, Hrow4.out, HE4.out⟩
end Go.Proofs.Ytdelemmoiaiooaa
