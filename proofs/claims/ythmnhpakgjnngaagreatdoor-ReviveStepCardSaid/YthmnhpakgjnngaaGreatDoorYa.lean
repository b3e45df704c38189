/- Revive: the reference's permitted messages -/
import Derived.Test.YthmnhpakgjnngaaGreatDoorVe
import Derived.Deep.CutRange
import Derived.WalkMore
namespace Go.Rv
open Go Go.RowKit Go.Bs Go.Cl Go.Rw Go.Dt
def rclsP (c n : Int) : Bool :=
  if c == 48 then n == 0 else if c == 97 then true else if c == 110 then decide (0 ≤ n) else if c == 116 then decide (1 ≤ n)
  else if c == 49 then decide (0 ≤ n) && decide (n ≤ 1) else if c == 50 then decide (0 ≤ n) && decide (n ≤ 2) else if c == 53 then decide (0 ≤ n) && decide (n ≤ 5) else if c == 57 then decide (0 ≤ n) && decide (n ≤ 9)
  else if c == 85 then decide (16 ≤ n) && decide (n < 32) else if c == 67 then decide (1 ≤ n) && decide (n ≤ 10) else if c == 101 then decide (0 ≤ n) && decide (n ≤ 24) else if c == 112 then decide (0 ≤ n) && decide (n < 32)
  else if c == 102 then decide (0 ≤ n) && decide (n < 96) else if c == 70 then decide (-1 ≤ n) && decide (n < 96) else if c == 98 then decide (0 ≤ n) && decide (n < 160) else if c == 100 then decide (1 ≤ n) && decide (n ≤ 4)
  else if c == 115 then decide (0 ≤ n) && decide (n < 20) else if c == 120 then decide (1 ≤ n) && decide (n ≤ 7) else if c == 111 then decide (1 ≤ n) && decide (n ≤ 6) else if c == 119 then decide (1 ≤ n) && decide (n ≤ 6)
  else if c == 114 then decide (1 ≤ n) && decide (n ≤ 3) else if c == 107 then decide (0 ≤ n) && decide (n ≤ 255) else false
def rargsP (s : ByteArray) (m : Ms) : Bool := rclsP (clsAt s 0) m.a0 && (rclsP (clsAt s 1) m.a1 && (rclsP (clsAt s 2) m.a2 && rclsP (clsAt s 3) m.a3))
theorem rargsP_false {s : ByteArray} {m : Ms} {k : Nat} (hk : k < 4) (h : rclsP (clsAt s k) (Go.Proofs.YthmnhpakgjnngaaGreatDoor.xAt m k) = false) : rargsP s m = false := by
  have hc : k = 0 ∨ k = 1 ∨ k = 2 ∨ k = 3 := by omega
  rcases hc with rfl | rfl | rfl | rfl <;> simp only [Go.Proofs.YthmnhpakgjnngaaGreatDoor.xAt, if_true] at h <;> simp_all [rargsP]
theorem rargsP_true {s : ByteArray} {m : Ms} (h : ∀ k, k < 4 → rclsP (clsAt s k) (Go.Proofs.YthmnhpakgjnngaaGreatDoor.xAt m k) = true) : rargsP s m = true := by
  have h0 := h 0 (by omega); have h1 := h 1 (by omega); have h2 := h 2 (by omega); have h3 := h 3 (by omega)
  simp only [Go.Proofs.YthmnhpakgjnngaaGreatDoor.xAt, if_true] at h0 h1 h2 h3
  simp_all [rargsP]
/-- what the reference says of the kinds that Revive takes -/
def rendsP (m : Ms) : Bool := if m.kind = 4 then (m.src == 0) && (decide (1 ≤ m.dst) && decide (m.dst ≤ 10)) else if m.kind = 5 then (m.src == 0) && (m.dst == 1) else (decide (1 ≤ m.src) && decide (m.src ≤ 10)) && ((m.src != 1) && (m.dst == 1))
def rformP (k : Int) : ByteArray := if k = 4 then ⟨#[97, 110]⟩ else if k = 5 then ⟨#[67, 120]⟩ else ⟨#[110]⟩
def mine (k : Int) : Prop := k = 4 ∨ k = 5 ∨ k = 7
def rpermP (m : Ms) (dn : Nat) : Bool := rendsP m && (rargsP (rformP m.kind) m && (decide ((dn : Int) ≤ 0) && decide (0 ≤ m.seq)))
def EndIB (e : Ending) : Prop := ∃ (x : Int) (b : Bool), e = .returned (.tuple #[.int .i64 x, .bool b])
def EndB (P : Bool → Prop) (e : Ending) : Prop := ∃ b, e = .returned (.bool b) ∧ P b
theorem cl0 : clsAt ⟨#[42, 110]⟩ 0 = 42 := rfl
theorem cl1 : clsAt ⟨#[42, 110]⟩ 1 = 110 := rfl
theorem cl2 : clsAt ⟨#[42, 110]⟩ 2 = 48 := rfl
theorem cl3 : clsAt ⟨#[42, 110]⟩ 3 = 48 := rfl
theorem cl4 : clsAt ⟨#[99, 120]⟩ 0 = 99 := rfl
theorem cl5 : clsAt ⟨#[99, 120]⟩ 1 = 120 := rfl
theorem cl6 : clsAt ⟨#[99, 120]⟩ 2 = 48 := rfl
theorem cl7 : clsAt ⟨#[99, 120]⟩ 3 = 48 := rfl
theorem cl8 : clsAt ⟨#[110]⟩ 0 = 110 := rfl
theorem cl9 : clsAt ⟨#[110]⟩ 1 = 48 := rfl
theorem cl10 : clsAt ⟨#[110]⟩ 2 = 48 := rfl
theorem cl11 : clsAt ⟨#[110]⟩ 3 = 48 := rfl
theorem cl12 : clsAt ⟨#[97, 110]⟩ 0 = 97 := rfl
theorem cl13 : clsAt ⟨#[97, 110]⟩ 1 = 110 := rfl
theorem cl14 : clsAt ⟨#[97, 110]⟩ 2 = 48 := rfl
theorem cl15 : clsAt ⟨#[97, 110]⟩ 3 = 48 := rfl
theorem cl16 : clsAt ⟨#[67, 120]⟩ 0 = 67 := rfl
theorem cl17 : clsAt ⟨#[67, 120]⟩ 1 = 120 := rfl
theorem cl18 : clsAt ⟨#[67, 120]⟩ 2 = 48 := rfl
theorem cl19 : clsAt ⟨#[67, 120]⟩ 3 = 48 := rfl
theorem rperm_eq {m : Ms} {dn : Nat} (h : mine m.kind) : permP m dn = rpermP m dn := by
  obtain ⟨ms, md, mk, mq, m0, m1, m2, m3⟩ := m
  rcases h with h | h | h <;> dsimp only at h <;> subst h <;> rw [Bool.eq_iff_iff] <;>
    simp [permP, rpermP, rendsP, rargsP, rformP, fmAt, formL, argsP, inP, endsP, extraP, rclsP, mostP, cl0, cl1, cl2, cl3, cl4, cl5, cl6, cl7, cl8, cl9, cl10, cl11, cl12, cl13, cl14, cl15, cl16, cl17, cl18, cl19] <;> omega
end Go.Rv
namespace Go.Proofs.YthmnhpakgjnngaaGreatDoor
open Go.RowKit Go.Bs Go.Cl Go.Rw Go.Dt Go.Rv
set_option maxHeartbeats 1000000 in
theorem rcomp_any (t : Int) (w : World) : Calls Tryz.prog 98 #[.int .i64 t] w fun e w' => e = .returned (.bool (decide (1 ≤ t) && decide (t ≤ 10))) ∧ w = w' := by
  go_enter Tryz.func98, Tryz.ntmps98
  go_wp2
  all_goals
    go_ret
    refine ⟨ret_bool ?_, rfl⟩
    simp [*]
    try omega
set_option maxHeartbeats 1000000 in
theorem ruser_any (t : Int) (w : World) : Calls Tryz.prog 77 #[.int .i64 t] w fun e w' => e = .returned (.bool (decide (16 ≤ t) && decide (t < 32))) ∧ w = w' := by
  go_enter Tryz.func77, Tryz.ntmps77
  go_wp2
  all_goals
    go_ret
    refine ⟨ret_bool ?_, rfl⟩
    simp [*]
    try omega
set_option maxHeartbeats 1000000 in
theorem rserver_any (t : Int) (w : World) : Calls Tryz.prog 96 #[.int .i64 t] w fun e w' => EndIB e ∧ w = w' := by
  go_enter Tryz.func96, Tryz.ntmps96
  go_wp2
  all_goals
    go_ret2
    exact ⟨⟨_, _, rfl⟩, rfl⟩
set_option maxHeartbeats 1000000 in
theorem rdriver_any (t : Int) (w : World) : Calls Tryz.prog 97 #[.int .i64 t] w fun e w' => EndIB e ∧ w = w' := by
  go_enter Tryz.func97, Tryz.ntmps97
  go_wp2
  all_goals
    go_ret2
    exact ⟨⟨_, _, rfl⟩, rfl⟩
set_option maxRecDepth 100000 in
set_option maxHeartbeats 8000000 in
theorem rclass_any (c n : Int) (w : World) : Calls Tryz.prog 99 #[.int .u8 c, .int .i64 n] w fun e w' => e = .returned (.bool (rclsP c n)) ∧ w = w' := by
  go_enter Tryz.func99, Tryz.ntmps99
  go_wp2_with (first
    | (go_at_call 77; refine (ruser_any _ _).mono ?_; rintro e w1 ⟨rfl, rfl⟩)
    | (go_at_call 98; refine (rcomp_any _ _).mono ?_; rintro e w1 ⟨rfl, rfl⟩))
  all_goals
    go_ret
    refine ⟨ret_bool ?_, rfl⟩
    simp [rclsP, *]
    try (first | omega | (simp only [beq_iff_eq, beq_eq_false_iff_ne, ne_eq] at *; omega))
theorem rclass_eq (c n : Int) (r : Bool) (w : World) (h : rclsP c n = r) : Calls Tryz.prog 99 #[.int .u8 c, .int .i64 n] w fun e w' => e = .returned (.bool r) ∧ w = w' := h ▸ rclass_any c n w
end Go.Proofs.YthmnhpakgjnngaaGreatDoor
