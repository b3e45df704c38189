/- Store: the laws' example -/
import Derived.Test.YtnbngidelpodkaaPf
namespace Go.Proofs.Ytnbngidelpodkaa
open Go.RowKit Go.Bs Go.Cl Go.Rw Go.Un Go.Im
def za : List UInt8 := List.replicate 300 0
def zb : List UInt8 := (za.set 5 1).set 290 1
theorem za_len : za.length = 300 := by unfold za; exact List.length_replicate
theorem zb_len : zb.length = 300 := by unfold zb; rw [List.length_set, List.length_set]; exact za_len
set_option maxRecDepth 100000 in
theorem zt : tot za zb = 2 := by decide +kernel
theorem zs1 : psBegin ⟨za, 0, false, [], 0⟩ zb = (⟨za, 0, true, zb, 0⟩, 2, 0) := by simp [psBegin, zt]
theorem zs2 : psStep ⟨za, 0, true, zb, 0⟩ = (⟨za, 0, true, zb, 1⟩, 1, 0) := by simp [psStep, stepped, Ps.steps, zt]
theorem zs3 : psAbort ⟨za, 0, true, zb, 1⟩ = (⟨za, 0, false, [], 0⟩, 0) := by simp [psAbort, aborted]
theorem byteV1 : byteV 1 = .int .u8 1 := rfl
theorem zset1 : (bytesV za).set 5 (.int .u8 1) = bytesV (za.set 5 1) := by unfold bytesV; rw [List.map_set, byteV1]
theorem zset2 : (bytesV (za.set 5 1)).set 290 (.int .u8 1) = bytesV zb := by unfold zb bytesV; rw [List.map_set (l := za.set 5 1), byteV1]
set_option maxRecDepth 100000 in
set_option maxHeartbeats 4000000 in
theorem awake_any (w : World) : Calls Try.prog 9 #[] w fun e w' => e = .returned (.bool true) ∧ Below w.heap.size w w' := by
  go_enter Try.func9, Try.ntmps9
  go_wp2_with (refine wpList_make el22 w.heap.size 300 rfl _ _ rfl rfl rfl rfl rfl ?c1 ?c2 (Nat.le_refl _) ?_)
  case c1 => omega
  case c2 => unfold maxLen; omega
  intro w1 hown hgrow hsz
  rw [zeros_bytes] at hown
  have hb1 : Below w.heap.size w w1 := (Below.refl _ _).grown hgrow (Nat.le_refl _) (fun k h => by cases h)
  have HO1 : Hid (w1.ownsRow w.heap.size 5 1 (.slice (some ⟨w.heap.size, 0, none⟩) 300 300) 300 (bytesV za)) := Lib.hid hown
  have HB1 := Lib.hid hb1
  have al := (Below.refl w1.heap.size w1).alloc (Nat.le_refl _) (.cells #[] 5)
  have HE := Lib.hid (own_empty w1 w1.heap.size 5 1 (Nat.le_refl _))
  have HR1 := Lib.hid (Raw.below (Raw.of_own (F := []) HO1.out (bytesV_one _) (fun f hf => by cases hf)) al)
  clear hown hgrow
  go_wp2_with (at_builtin; refine wpList_app el22 Try.underlying22 HE.out HR1.out al rfl _ _ rfl rfl rfl ?c3 (Nat.le_refl _) ?c5 ?_)
  case c3 => omega
  case c5 => simp
  intro v2 w2 hown2 hb2 _ _
  obtain ⟨v2a, v2c, rfl⟩ := own_slice hown2
  have hown2 : w2.ownsRow w1.heap.size 5 1 (.slice v2a 300 v2c) 300 (bytesV za) := by simpa using hown2
  obtain ⟨q, cap, hv, hq, hq2, _⟩ : ∃ q cap, (Value.slice v2a 300 v2c) = .slice (some ⟨q, 0, none⟩) 300 cap ∧ w1.heap.size ≤ q ∧ q < w2.heap.size ∧ 300 ≤ cap := by
    rcases own_cases hown2 with ⟨h, _⟩ | h
    · cases h
    · exact h
  cases hv
  have hx := hown2
  obtain ⟨X, hX⟩ : ∃ X, X = (w2.setCell ⟨q, 5, none⟩ (.int .u8 1)).setCell ⟨q, 290, none⟩ (.int .u8 1) := ⟨_, rfl⟩
  have HX : Hid (X.ownsRow w1.heap.size 5 1 (.slice (some ⟨q, 0, none⟩) 300 v2c) 300 (bytesV zb)) := Lib.hid (by
    have h1 := own_set hown2 (j := 5) (u := .int .u8 1) (by rw [bytesV_len, za_len]; omega)
    rw [zset1] at h1
    have h2 := own_set h1 (j := 290) (u := .int .u8 1) (by rw [bytesV_len, List.length_set, za_len]; omega)
    rw [zset2] at h2
    rw [hX]; exact h2)
  have c5 := own_cell hown2 rfl (j := 5) (u := .int .u8 0) (by unfold bytesV za; rw [List.getElem?_map, List.getElem?_replicate]; rfl)
  have c290 := own_cell hown2 rfl (j := 290) (u := .int .u8 0) (by unfold bytesV za; rw [List.getElem?_map, List.getElem?_replicate]; rfl)
  have hfz : ∀ j, w2.frozen? ⟨q, j, none⟩ = false := fun j => by
    obtain ⟨cur, hc⟩ := own_type hown2 (r := q) rfl
    exact box_free hc j
  have f5 := hfz 5
  have f290 := hfz 290
  have hkX : Keep [q] w2 X := by rw [hX]; exact ((Keep.refl [q] w2).setCell (by simp) _).setCell (by simp) _
  have HBX : Hid (Below w1.heap.size w1 X) := Lib.hid (hb2.trans (hkX.below hb2.size (fun f hf => by rw [List.mem_singleton.1 hf]; exact hq)))
  have HXE := Lib.hid hX
  clear hfz hkX hX hown2 hb2 hx
  go_upto_region 4 with (fail)
  rw [← HXE.out]
  clear c5 c290 f5 f290
  have hsx := HBX.out.size
  have HAr : Hid (Bytes [] X (.slice (some ⟨w.heap.size, 0, none⟩) 300 300) za) := Lib.hid (Raw.below (Raw.of_own (F := []) HO1.out (bytesV_one _) (fun f hf => by cases hf)) HBX.out)
  have HBr : Hid (Bytes [] X (.slice (some ⟨q, 0, none⟩) 300 v2c) zb) := Lib.hid (Raw.of_own (F := []) HX.out (bytesV_one _) (fun f hf => by cases hf))
  obtain ⟨bl, hbl1, hbl2⟩ := Raw.blocks HAr.out (by omega)
  have Hbl := Lib.hid (fun b hb => (hbl2 b hb).2); have Hin := Lib.hid hbl1
  clear hbl1 hbl2
  go_wp2_with fail
  refine (liv_new (w0 := X) _ za _ (by rw [za_len]; omega) (Below.refl _ _) HAr.out).mono ?_
  rintro e w3 ⟨g, rfl, hL⟩
  have HL3 := Lib.hid hL; clear hL
  go_wp2_with fail
  refine (liv_begin _ zb HL3.out (by rw [zb_len]; omega) HBr.out).mono ?_
  rw [zs1]
  rintro e w4 ⟨rfl, hL⟩
  have HL4 := Lib.hid hL; clear hL HL3
  go_wp2_with fail
  refine (liv_step HL4.out).mono ?_
  rw [zs2]
  rintro e w5 ⟨rfl, hL⟩
  have HL5 := Lib.hid hL; clear hL HL4
  go_upto_region 9 with (fail)
  have hBl := cells_base Hbl.out HL5.out.1
  refine Txt.Ty.wp_tree bl [24] [] [22, 24] [0, 1, 2, 3, 4, 5, 6, 7, 8, 9, 10, 11, 12, 13, 14, 15] (.alt [16, 17, 18, 19, 20, 23, 24] (.alt [21, 22, 25, 26, 27, 28] (.alt [29, 30, 31, 32] (.done) (.no)) (.no)) (.no)) (by kernel_rfl) (by kernel_rfl) (by kernel_rfl) (by kernel_rfl) hBl ?_
  clear hBl
  (try simp only [Txt.pick, List.getElem?_cons_succ, List.getElem?_cons_zero])
  go_wp2
  refine Txt.RunPost.mk ?_
  refine Txt.Ty.wpTr_alt ?_ Txt.Ty.wpTr_no
  (try simp only [Txt.pick, List.getElem?_cons_succ, List.getElem?_cons_zero])
  go_wp2_with fail
  refine (liv_abort HL5.out.drew).mono ?_
  rw [zs3]
  rintro e w6 ⟨rfl, hL⟩
  have HL6 := Lib.hid hL; clear hL
  have k2 := run_str (HL6.out.arg HAr.out) 22 5 9 Try.underlying22 Try.underlying5 Try.underlying9
  go_wp2
  refine Txt.SegPost.mk (Txt.Ty.Shown.same (same_base Hbl.out HL5.out.drew.1 HL6.out.1)) ?_
  (try simp only [Txt.pick, List.getElem?_cons_succ, List.getElem?_cons_zero])
  go_wp2
  refine Txt.RunPost.mk ?_
  refine Txt.Ty.wpTr_alt ?_ Txt.Ty.wpTr_no
  (try simp only [Txt.pick, List.getElem?_cons_succ, List.getElem?_cons_zero])
  go_wp2_with fail
  refine (liv_img HL6.out).mono ?_
  rintro e w7 ⟨a7, c7, rfl, ho7, hL⟩
  have HL7 := Lib.hid hL; clear hL
  have k1 := run_str (Bytes.row (F := []) ho7 rfl (fun f hf => by cases hf)) 22 5 9 Try.underlying22 Try.underlying5 Try.underlying9
  have hq0 : ((strOf za).toList == (strOf za).toList) = true := by simp
  simp only at k1
  clear ho7 k2
  go_wp2
  refine Txt.SegPost.mk (Txt.Ty.Shown.same (same_base Hbl.out HL5.out.drew.1 HL7.out.1)) ?_
  (try simp only [Txt.pick, List.getElem?_cons_succ, List.getElem?_cons_zero])
  go_wp2
  refine Txt.RunPost.mk ?_
  refine Txt.Ty.wpTr_alt ?_ Txt.Ty.wpTr_no
  (try simp only [Txt.pick, List.getElem?_cons_succ, List.getElem?_cons_zero])
  go_wp2_with fail
  refine (liv_ver HL7.out).mono ?_
  rintro e w8 ⟨rfl, rfl⟩
  go_wp2
  refine Txt.SegPost.mk (Txt.Ty.Shown.same (same_base Hbl.out HL5.out.drew.1 HL7.out.1)) ?_
  (try simp only [Txt.pick, List.getElem?_cons_succ, List.getElem?_cons_zero])
  go_wp2
  refine Txt.RunPost.mk ?_
  refine Txt.Ty.wpTr_done (by rfl) ⟨Hin.out _ (fun b hb => hb), trivial⟩ ?_
  go_wp2
  go_ret
  exact ⟨rfl, (HB1.out.trans (HBX.out.mono HB1.out.size)).trans (HL7.out.1.mono (by have := HB1.out.size; omega))⟩
end Go.Proofs.Ytnbngidelpodkaa
