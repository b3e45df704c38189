/- Revive: permitted messages -/
import Derived.Test.YthmnhpakgjnngaaGreatDoorVc
namespace Go.Rv
open Go Go.RowKit Go.Bs Go.Cl Go.Rw Go.Dt
def mostP (c : Int) : Int :=
  if c == 98 then 1 else if c == 101 then 24 else if c == 112 then 31 else if c == 102 then 95 else if c == 107 then 159 else if c == 115 then 19 else if c == 109 then 2 else if c == 122 then 9 else if c == 121 then 5 else if c == 118 then 255 else 0
def inP (c n : Int) : Bool :=
  if c == 42 then true else if c == 110 then decide (0 ≤ n) else if c == 116 then decide (1 ≤ n) else if c == 117 then decide (16 ≤ n) && decide (n < 32) else if c == 99 then decide (1 ≤ n) && decide (n ≤ 10)
  else if c == 103 then decide (-1 ≤ n) && decide (n < 96) else if c == 100 then decide (1 ≤ n) && decide (n ≤ 4) else if c == 120 then decide (0 < n) && decide (n ≤ 7) else if c == 111 then decide (1 ≤ n) && decide (n ≤ 6)
  else if c == 113 then decide (1 ≤ n) && decide (n ≤ 6) else if c == 114 then decide (1 ≤ n) && decide (n ≤ 3) else decide (0 ≤ n) && decide (n ≤ mostP c)
def clsAt (s : ByteArray) (k : Nat) : Int := if h : k < s.size then (s[k].toNat : Int) else 48
def argsP (s : ByteArray) (m : Ms) : Bool := inP (clsAt s 0) m.a0 && (inP (clsAt s 1) m.a1 && (inP (clsAt s 2) m.a2 && inP (clsAt s 3) m.a3))
def serverP (c : Int) : Int × Bool :=
  if c == 0 then (3, true) else if c == 1 then (3, true) else if c == 2 then (3, true) else if c == 3 then (3, true) else if c == 4 then (3, true) else if c == 5 then (3, true)
  else if c == 6 then (4, true) else if c == 18 then (10, true) else if c == 19 then (10, true) else if decide (c < 0) || decide (20 ≤ c) then (0, false) else (5, true)
def driverP (d : Int) : Int := if inP 100 d then (if d == 1 then 7 else if d == 2 then 8 else if d == 3 then 9 else 10) else 0
def endsP (m : Ms) : Bool :=
  if m.kind == 1 then (serverP m.a0).2 && inP 117 m.src && (m.dst == (serverP m.a0).1) else if m.kind == 2 then inP 117 m.src else if m.kind == 3 then m.dst == driverP m.a0
  else if m.kind == 4 then inP 99 m.dst else if m.kind == 27 then inP 99 m.dst else if m.kind == 6 then inP 99 m.dst && (m.dst != 1) else if m.kind == 7 then inP 99 m.src && (m.src != 1) else if m.kind == 26 then inP 99 m.src
  else if m.kind == 20 then ((m.src == 4) && decide (96 ≤ m.a1)) || ((m.src == 6) && decide (m.a1 < 96)) else if m.kind == 21 then (m.dst == 4) || (m.dst == 6) else true
def extraP (m : Ms) (dl : Nat) : Bool :=
  if m.kind == 8 then m.a0 != m.a1 else if m.kind == 12 then m.a0 != m.a1 else if m.kind == 20 then (if (m.a0 == 1) && (m.a2 == -1) then (dl : Int) == 128 else (dl : Int) == 0) else if m.kind == 24 then (if m.a0 == 5 then m.a1 == 0 else inP 117 m.a1) else true
end Go.Rv
namespace Go.Proofs.YthmnhpakgjnngaaGreatDoor
open Go.RowKit Go.Bs Go.Cl Go.Rw Go.Dt Go.Rv
set_option maxHeartbeats 1000000 in
theorem most_any (c : Int) (w : World) : Calls Tryz.prog 104 #[.int .u8 c] w fun e w' => e = .returned (.int .i64 (mostP c)) ∧ w = w' := by
  go_enter Tryz.func104, Tryz.ntmps104
  go_wp2
  all_goals
    go_ret
    refine ⟨congrArg (fun x => Ending.returned (.int .i64 x)) ?_, rfl⟩
    simp [mostP, *]
set_option maxHeartbeats 4000000 in
theorem in_any (c n : Int) (w : World) : Calls Tryz.prog 93 #[.int .u8 c, .int .i64 n] w fun e w' => e = .returned (.bool (inP c n)) ∧ w = w' := by
  go_enter Tryz.func93, Tryz.ntmps93
  go_wp2_with (go_at_call 104; refine (most_any _ _).mono ?_; rintro e w1 ⟨rfl, rfl⟩)
  all_goals
    go_ret
    refine ⟨ret_bool ?_, rfl⟩
    simp [inP, *]
    try omega
theorem in_eq (c n : Int) (r : Bool) (w : World) (h : inP c n = r) : Calls Tryz.prog 93 #[.int .u8 c, .int .i64 n] w fun e w' => e = .returned (.bool r) ∧ w = w' := h ▸ in_any c n w
set_option maxHeartbeats 1000000 in
theorem server_any (c : Int) (w : World) : Calls Tryz.prog 94 #[.int .i64 c] w fun e w' => e = .returned (.tuple #[.int .i64 (serverP c).1, .bool (serverP c).2]) ∧ w = w' := by
  go_enter Tryz.func94, Tryz.ntmps94
  go_wp2
  all_goals
    go_ret2
    have hh : ∀ {x : Int} {b : Bool} {p : Int × Bool}, p = (x, b) → Ending.returned (.tuple #[.int .i64 x, .bool b]) = Ending.returned (.tuple #[.int .i64 p.1, .bool p.2]) := fun h => by rw [h]
    refine ⟨hh ?_, rfl⟩
    simp [serverP, *]
set_option maxRecDepth 100000 in
set_option maxHeartbeats 1000000 in
theorem driver_any (d : Int) (w : World) : Calls Tryz.prog 95 #[.int .i64 d] w fun e w' => e = .returned (.int .i64 (driverP d)) ∧ w = w' := by
  cases hp : inP 100 d
  · have Hp := Lib.hid hp
    have hr : driverP d = 0 := by unfold driverP; rw [hp]; rfl
    rw [hr]
    clear hp hr
    go_enter Tryz.func95, Tryz.ntmps95
    go_wp2_with fail
    refine (in_eq 100 d false _ Hp.out).mono ?_
    rintro e w1 ⟨rfl, rfl⟩
    go_wp2
    go_ret
    exact ⟨rfl, rfl⟩
  · have Hp := Lib.hid hp
    have h14 : 1 ≤ d ∧ d ≤ 4 := by simpa [inP] using hp
    have hr : driverP d = (if d == 1 then 7 else if d == 2 then 8 else if d == 3 then 9 else 10) := by unfold driverP; rw [hp]; rfl
    rw [hr]
    clear hp hr
    have hd : d = 1 ∨ d = 2 ∨ d = 3 ∨ d = 4 := by omega
    have i1 : ∀ w, (Instr.index 142 (.agg #[.int .i64 0, .int .i64 7, .int .i64 8, .int .i64 9, .int .i64 10]) (.int .i64 1)).run Tryz.prog w = .ok (.int .i64 7) w := fun w => by kernel_rfl
    have i2 : ∀ w, (Instr.index 142 (.agg #[.int .i64 0, .int .i64 7, .int .i64 8, .int .i64 9, .int .i64 10]) (.int .i64 2)).run Tryz.prog w = .ok (.int .i64 8) w := fun w => by kernel_rfl
    have i3 : ∀ w, (Instr.index 142 (.agg #[.int .i64 0, .int .i64 7, .int .i64 8, .int .i64 9, .int .i64 10]) (.int .i64 3)).run Tryz.prog w = .ok (.int .i64 9) w := fun w => by kernel_rfl
    have i4 : ∀ w, (Instr.index 142 (.agg #[.int .i64 0, .int .i64 7, .int .i64 8, .int .i64 9, .int .i64 10]) (.int .i64 4)).run Tryz.prog w = .ok (.int .i64 10) w := fun w => by kernel_rfl
    rcases hd with rfl | rfl | rfl | rfl
    all_goals
      go_enter Tryz.func95, Tryz.ntmps95
      go_wp2_with fail
      refine (in_eq 100 _ true _ Hp.out).mono ?_
      rintro e w1 ⟨rfl, rfl⟩
      go_wp2
      go_ret
      exact ⟨rfl, rfl⟩
set_option maxRecDepth 100000 in
set_option maxHeartbeats 4000000 in
theorem ends_any (m : Ms) (a : Option Addr) (n c : Nat) (w : World) : Calls Tryz.prog 71 #[.agg (msgC m (.slice a n c))] w fun e w' => e = .returned (.bool (endsP m)) ∧ Below w.heap.size w w' := by
  obtain ⟨ms, md, mk, mq, m0, m1, m2, m3⟩ := m
  unfold msgC
  dsimp only
  obtain ⟨W, hW⟩ : ∃ W, W = w.alloc (.cells #[.int .i64 ms, .int .i64 md, .int .i64 mk, .int .i64 mq, .int .i64 m0, .int .i64 m1, .int .i64 m2, .int .i64 m3, .slice a n c] 31) := ⟨_, rfl⟩
  have hb : Below w.heap.size w W := by rw [hW]; exact (Below.refl w.heap.size w).alloc (Nat.le_refl _) _
  have hx : W.heap[w.heap.size]? = some (.cells #[.int .i64 ms, .int .i64 md, .int .i64 mk, .int .i64 mq, .int .i64 m0, .int .i64 m1, .int .i64 m2, .int .i64 m3, .slice a n c] 31 (0, 0)) := by rw [hW]; exact heap_alloc_new w _
  have c0 := box_at hx (j := 0) rfl
  have c1 := box_at hx (j := 1) rfl
  have c2 := box_at hx (j := 2) rfl
  have c4 := box_at hx (j := 4) rfl
  have c5 := box_at hx (j := 5) rfl
  have HB := Lib.hid hb
  have hd := (Below.refl W.heap.size W).drew
  have HX := Lib.hid hx
  have HD := Lib.hid (HB.out.trans (hd.mono hb.size))
  have HW := Lib.hid hW
  clear hb hx hW hd
  go_enter Tryz.func71, Tryz.ntmps71
  go_upto_region 1 with (fail)
  rw [← HW.out]
  by_cases h3 : mk = 3
  · subst h3
    go_upto_region 8 with (fail)
    have hBl : ∀ q ∈ [w.heap.size], ∃ cc e f, W.heap[q]? = some (.cells cc e f) := fun q hq => by rw [List.mem_singleton.1 hq]; exact ⟨_, _, _, HX.out⟩
    refine Txt.Ty.wp_tree [w.heap.size] [1] [] [1] [0, 1, 2, 3] (.alt [4] (.alt [5, 6, 7] (.done) (.no)) (.no)) (by kernel_rfl) (by kernel_rfl) (by kernel_rfl) (by kernel_rfl) hBl ?_
    have hS := same_start hBl
    (try simp only [Txt.pick, List.getElem?_cons_succ, List.getElem?_cons_zero])
    go_wp2
    refine Txt.RunPost.mk ?_
    refine Txt.Ty.wpTr_alt ?_ Txt.Ty.wpTr_no
    (try simp only [Txt.pick, List.getElem?_cons_succ, List.getElem?_cons_zero])
    go_wp2
    refine Txt.SegPost.mk (Txt.Ty.Shown.same hS) ?_
    (try simp only [Txt.pick, List.getElem?_cons_succ, List.getElem?_cons_zero])
    go_wp2
    refine Txt.RunPost.mk ?_
    refine Txt.Ty.wpTr_alt ?_ Txt.Ty.wpTr_no
    (try simp only [Txt.pick, List.getElem?_cons_succ, List.getElem?_cons_zero])
    go_wp2_with fail
    refine (driver_any _ _).mono ?_
    rintro e w1 ⟨rfl, rfl⟩
    go_wp2
    refine Txt.SegPost.mk (Txt.Ty.Shown.same hS) ?_
    (try simp only [Txt.pick, List.getElem?_cons_succ, List.getElem?_cons_zero])
    go_wp2
    refine Txt.RunPost.mk ?_
    refine Txt.Ty.wpTr_done (by rfl) ⟨.head _, trivial⟩ ?_
    go_wp2
    go_ret
    exact ⟨ret_bool (by simp [endsP]), HD.out⟩
  go_wp2_with (first
    | (go_at_call 94; refine (server_any _ _).mono ?_; rintro e w1 ⟨rfl, rfl⟩)
    | (go_at_call 93; refine (in_any _ _ _).mono ?_; rintro e w1 ⟨rfl, rfl⟩))
  all_goals
    go_ret
    refine ⟨ret_bool ?_, HB.out⟩
    simp [endsP, *]
set_option maxRecDepth 100000 in
set_option maxHeartbeats 4000000 in
theorem extra_any (m : Ms) (a : Option Addr) (n c : Nat) (w : World) : Calls Tryz.prog 72 #[.agg (msgC m (.slice a n c))] w fun e w' => e = .returned (.bool (extraP m n)) ∧ Below w.heap.size w w' := by
  obtain ⟨ms, md, mk, mq, m0, m1, m2, m3⟩ := m
  unfold msgC
  dsimp only
  obtain ⟨W, hW⟩ : ∃ W, W = w.alloc (.cells #[.int .i64 ms, .int .i64 md, .int .i64 mk, .int .i64 mq, .int .i64 m0, .int .i64 m1, .int .i64 m2, .int .i64 m3, .slice a n c] 31) := ⟨_, rfl⟩
  have hb : Below w.heap.size w W := by rw [hW]; exact (Below.refl w.heap.size w).alloc (Nat.le_refl _) _
  have hx : W.heap[w.heap.size]? = some (.cells #[.int .i64 ms, .int .i64 md, .int .i64 mk, .int .i64 mq, .int .i64 m0, .int .i64 m1, .int .i64 m2, .int .i64 m3, .slice a n c] 31 (0, 0)) := by rw [hW]; exact heap_alloc_new w _
  have c2 := box_at hx (j := 2) rfl
  have c4 := box_at hx (j := 4) rfl
  have c5 := box_at hx (j := 5) rfl
  have c6 := box_at hx (j := 6) rfl
  have c8 := box_at hx (j := 8) rfl
  have HB := Lib.hid hb
  have HW := Lib.hid hW
  clear hb hx hW
  go_enter Tryz.func72, Tryz.ntmps72
  go_upto_region 1 with (fail)
  rw [← HW.out]
  go_wp2_with (go_at_call 93; refine (in_any _ _ _).mono ?_; rintro e w1 ⟨rfl, rfl⟩)
  all_goals
    go_ret
    refine ⟨ret_bool ?_, HB.out⟩
    simp [extraP, *]
end Go.Proofs.YthmnhpakgjnngaaGreatDoor
