/- Undo: Rollback; calls on no log -/
import Derived.Test.YtnbngidelpodkaaUr
namespace Go.Proofs.Ytnbngidelpodkaa
open Go.RowKit Go.Bs Go.Cl Go.Rw Go.Un
theorem StepP.trans {w w1 w2 : World} {base g : Nat} {iv rv iv1 rv1 : Value} {img1 img2 : List UInt8} {rs rs1 : List (Rec × Value)} {rs2 : List Rec} {o1 o2 : Bool}
    (h1 : LogAt w1 base g iv1 rv1 img1 rs1 o1) (hk : Keep (LogF g iv rv) w w1) (hF : ∀ f ∈ LogF g iv1 rv1, f ∈ LogF g iv rv ∨ w.heap.size ≤ f) (hfr : Fr w rs w1 rs1) (h2 : StepP w1 base g iv1 rv1 rs1 img2 rs2 o2 w2) : StepP w base g iv rv rs img2 rs2 o2 w2 := by
  obtain ⟨iv2, rv2, rs2, e, h3, hk2, hF2, hfr2⟩ := h2
  exact ⟨iv2, rv2, rs2, e, h3, hk.trans hk2 hF, fun f hf => by
    rcases hF2 f hf with h | h
    · exact hF f h
    · exact .inr (Nat.le_trans hk.size h), hfr.trans hfr2 hk.size⟩

set_option maxHeartbeats 400000 in
theorem rollback_any {base g : Nat} {iv rv : Value} {img : List UInt8} {rs : List (Rec × Value)} {o : Bool} (w : World) (h : LogAt w base g iv rv img rs o) (hil : img.length ≤ 24000) (hrl : rs.length ≤ 1000) (hbase : base ≤ w.heap.size) (hok : ∀ p ∈ rs, p.1.ok = true) :
    Calls Try.prog 44 #[.pointer (some ⟨g, 0, none⟩)] w fun e w' => e = .returned (.int .i64 (if o then 0 else 7)) ∧ StepP w base g iv rv rs (if o then takeAll img (rs.map (·.1)) else img) (if o then [] else rs.map (·.1)) false w' := by
  cases o
  · have bk := back_no 0 w h (by simp [backE])
    have Bk := Lib.hid bk; clear bk
    have H := Lib.hid h; clear h
    go_enter Try.func44, Try.ntmps44
    go_wp2_with fail
    refine Bk.out.mono ?_
    rintro e w' ⟨rfl, rfl⟩
    have e7 : backE rs.length 0 false = 7 := rfl
    rw [e7]
    clear e7
    go_wp2
    go_ret
    exact ⟨rfl, StepP.same H.out⟩
  · have bk := back_yes 0 w h hil hrl hbase (Nat.zero_le _) hok
    rw [List.drop_zero, List.take_zero] at bk
    have Bk := Lib.hid bk; clear bk
    clear h
    obtain ⟨im2, him2⟩ : ∃ im2, takeAll img (rs.map (·.1)) = im2 := ⟨_, rfl⟩
    rw [him2] at Bk
    simp only [if_true]
    rw [him2]
    clear him2 hok
    go_enter Try.func44, Try.ntmps44
    go_wp2_with fail
    refine Bk.out.mono ?_
    rintro e w1 ⟨rfl, iv1, rv1, rs1, hrs, h1, hk1, hF1, hfr1⟩
    have cm := commit_any w1 h1
    have Cm := Lib.hid cm; clear cm
    have H1 := Lib.hid h1
    have Hk1 := Lib.hid hk1
    have HF1 := Lib.hid hF1
    have HFr1 := Lib.hid hfr1
    clear h1 hk1 hF1 hrs hfr1
    go_wp2_with fail
    refine Cm.out.mono ?_
    rintro e w2 ⟨rfl, h2⟩
    have Hfin := Lib.hid (StepP.trans H1.out Hk1.out HF1.out HFr1.out h2)
    clear h2
    simp only [if_true]
    go_wp2
    go_ret
    exact ⟨rfl, Hfin.out⟩

set_option maxHeartbeats 400000 in
theorem write_nil (off : Int) (bv : Value) (w : World) : Calls Try.prog 37 #[.pointer none, .int .i64 off, bv] w fun e w' => e = .returned (.int .i64 7) ∧ w = w' := by
  go_enter Try.func37, Try.ntmps37
  go_wp2_with (go_at_call 52; refine (closed_nil _).mono ?_; rintro e w' ⟨rfl, rfl⟩)
  go_ret
  exact ⟨rfl, rfl⟩
set_option maxHeartbeats 400000 in
theorem resize_nil (n : Int) (w : World) : Calls Try.prog 36 #[.pointer none, .int .i64 n] w fun e w' => e = .returned (.int .i64 7) ∧ w = w' := by
  go_enter Try.func36, Try.ntmps36
  go_wp2_with (go_at_call 52; refine (closed_nil _).mono ?_; rintro e w' ⟨rfl, rfl⟩)
  go_ret
  exact ⟨rfl, rfl⟩
set_option maxHeartbeats 400000 in
theorem back_nil (n : Int) (w : World) : Calls Try.prog 55 #[.pointer none, .int .i64 n] w fun e w' => e = .returned (.int .i64 7) ∧ w = w' := by
  go_enter Try.func55, Try.ntmps55
  go_wp2_with (go_at_call 52; refine (closed_nil _).mono ?_; rintro e w' ⟨rfl, rfl⟩)
  go_ret
  exact ⟨rfl, rfl⟩
set_option maxHeartbeats 400000 in
theorem commit_nil (w : World) : Calls Try.prog 39 #[.pointer none] w fun e w' => e = .returned (.int .i64 7) ∧ w = w' := by
  go_enter Try.func39, Try.ntmps39
  go_wp2_with (go_at_call 52; refine (closed_nil _).mono ?_; rintro e w' ⟨rfl, rfl⟩)
  go_ret
  exact ⟨rfl, rfl⟩
set_option maxHeartbeats 400000 in
theorem rollback_nil (w : World) : Calls Try.prog 44 #[.pointer none] w fun e w' => e = .returned (.int .i64 7) ∧ w = w' := by
  go_enter Try.func44, Try.ntmps44
  go_wp2_with fail
  refine (back_nil 0 _).mono ?_
  rintro e w' ⟨rfl, rfl⟩
  go_wp2
  go_ret
  exact ⟨rfl, rfl⟩
end Go.Proofs.Ytnbngidelpodkaa
