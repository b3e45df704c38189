/- Detect: rows of numbers; proper, Valid, Index, ContainsFunc, Clone -/
import Derived.Test.YthmnhpakgjnngaaGreatDoorM1
import Derived.Test.YthmnhpakgjnngaaGreatDoorRows
namespace Go.Dt
open Go Go.RowKit Go.Bs Go.Cl Go.Rw
/-- v reads as the numbers l -/
def Ints (F : List Nat) (w : World) (v : Value) (l : List Int) : Prop := Raw F 1 w v l.length (l.map (Value.int .i64))
theorem ivs_one (l : List Int) : ∀ u ∈ l.map (Value.int .i64), u.oneCell' = true := by
  intro u hu
  obtain ⟨x, _, rfl⟩ := List.mem_map.1 hu
  rfl
theorem Ints.elem {F : List Nat} {w : World} {v : Value} {l : List Int} (h : Ints F w v l) {k : Nat} (hk : k < l.length) : ∃ b off cap, v = .slice (some ⟨b, off, none⟩) l.length cap ∧ b < w.heap.size ∧ w.cell? ⟨b, off + k, none⟩ = some (.int .i64 l[k]) := by
  rcases Raw.cases h with ⟨h0, _⟩ | ⟨_, b, off, cap, rfl, _, _, hb, _, hc⟩
  · omega
  · exact ⟨b, off, cap, rfl, hb, hc k _ (by simp [hk])⟩
theorem Ints.of_own {w : World} {base e n : Nat} {v : Value} {l : List Int} (h : w.ownsRow base e 1 v n (l.map (Value.int .i64))) : Ints [] w v l := by
  have hn : n = l.length := by have := h.1; simpa using this.symm
  subst hn
  exact Raw.of_own h (ivs_one l) (fun f hf => by cases hf)
/-- heartbeats that are valid -/
structure OkB (r : Int) (l : List Int) : Prop where
  pr : ∀ x ∈ l, 1 ≤ x ∧ x < 32
  srt : l.Pairwise (· < ·)
  r0 : 0 ≤ r
  r1 : r ≤ 1000000000
  z : 0 < r ∨ l = []
end Go.Dt
namespace Go.Proofs.YthmnhpakgjnngaaGreatDoor
open Go.RowKit Go.Bs Go.Cl Go.Rw Go.Dt
set_option maxHeartbeats 400000 in
theorem proper_any (t : Int) (w : World) : Calls Tryz.prog 81 #[.int .i64 t] w fun e w' => e = .returned (.bool (decide (1 ≤ t ∧ t < 32))) ∧ w = w' := by
  go_enter Tryz.func81, Tryz.ntmps81
  go_wp2
  all_goals
    go_ret
    refine ⟨ret_bool ?_, rfl⟩
    rw [Bool.eq_iff_iff]; simp [*] <;> omega
theorem proper_ok {t : Int} (h1 : 1 ≤ t) (h2 : t < 32) (w : World) : Calls Tryz.prog 81 #[.int .i64 t] w fun e w' => e = .returned (.bool true) ∧ w = w' :=
  (proper_any t w).mono fun e w' h => by rw [h.1, decide_eq_true ⟨h1, h2⟩]; exact ⟨rfl, h.2⟩

set_option maxRecDepth 100000 in
set_option maxHeartbeats 1000000 in
theorem valid_ok (r : Int) (l : List Int) (v : Value) (w : World) (hl : l.length ≤ 1000) (h : Ints [] w v l) (ok : OkB r l) :
    Calls Tryz.prog 58 #[.agg #[.int .i64 r, v]] w fun e w' => e = .returned (.bool true) ∧ Below w.heap.size w w' := by
  obtain ⟨a, cap, rfl⟩ := Raw.slice h
  have H := Lib.hid h; clear h
  have OK := Lib.hid ok; clear ok
  have HB := Lib.hid ((Below.refl w.heap.size w).alloc (Nat.le_refl _) (.cells #[.int .i64 r, .slice a l.length cap] 38))
  go_enter Tryz.func58, Tryz.ntmps58
  go_wp2
  go_loopw [8] (fun i wr => ∃ k : Nat, k ≤ l.length ∧ i = .int .i64 k ∧ Below w.heap.size w wr ∧ wr.heap[w.heap.size]? = some (.cells #[.int .i64 r, .slice a l.length cap] 38 (0, 0))) (fun i _ => l.length - (intOf i).toNat)
  case atStart => exact ⟨0, Nat.zero_le _, rfl, HB.out, heap_alloc_new w _⟩
  case round =>
    obtain ⟨k, hk, rfl, hbel, hbox⟩ := hrel
    have hsz := hbel.size
    have HBX := Lib.hid hbox
    have HBL := Lib.hid hbel
    have hI : Ints [] wr (.slice a l.length cap) l := Raw.below H.out hbel
    have o0 := box_at hbox (j := 0) rfl
    have o1 := box_at hbox (j := 1) rfl
    by_cases hlt : k < l.length
    · obtain ⟨b, off, c', e', hb, h0⟩ := Ints.elem hI hlt
      have hk1' : k - 1 < l.length := by omega
      obtain ⟨b2, off2, c2, e2, _, h1⟩ := Ints.elem hI hk1'
      have hp := OK.out.pr _ (List.getElem_mem hlt)
      have hs : 0 < k → l[k - 1]'hk1' < l[k] := fun h0 => List.pairwise_iff_getElem.1 OK.out.srt (k - 1) k (by omega) hlt (by omega)
      cases e'; cases e2
      generalize l[k] = x at h0 hp hs
      generalize l[k - 1] = y at h1 hs
      clear hI hbel hbox
      go_wp2_with fail
      refine (proper_ok hp.1 hp.2 _).mono ?_
      rintro e w1 ⟨rfl, rfl⟩
      by_cases hk0 : 0 < k
      · have hs' : ¬ x ≤ y := by have := hs hk0; omega
        have hk1 : ((k : Int) - 1).toNat = k - 1 := by omega
        clear hs
        go_wp2
        go_roundw
        case rel => exact ⟨k + 1, by omega, by go_num, HBL.out, HBX.out⟩
        case measure => simp [intOf]; omega
      · obtain rfl : k = 0 := by omega
        clear hs
        go_wp2
        go_roundw
        case rel => exact ⟨1, by omega, by go_num, HBL.out, HBX.out⟩
        case measure => simp [intOf]; omega
    · obtain rfl : k = l.length := by omega
      have hr0 := OK.out.r0; have hr1 := OK.out.r1
      clear hI hbel hbox
      have hz := OK.out.z
      by_cases hr : 0 < r
      · go_wp2
        go_ret
        exact ⟨rfl, HBL.out⟩
      · have hz' : l.length = 0 := by rw [hz.resolve_left hr]; rfl
        have hz2 : ((l.length : Int) == 0) = true := by simp [hz']
        go_wp2
        go_ret
        exact ⟨ret_bool (by simp [hz2]), HBL.out⟩

set_option maxRecDepth 100000 in
set_option maxHeartbeats 1000000 in
theorem index_any (l : List Int) (v : Value) (x : Int) (w : World) (hl : l.length ≤ 1000) (h : Ints [] w v l) :
    Calls Tryz.prog 91 #[v, .int .i64 x] w fun e w' => ((∃ k : Nat, ∃ hk : k < l.length, l[k] = x ∧ (∀ j, (hj : j < k) → l[j] ≠ x) ∧ e = .returned (.int .i64 k)) ∨ x ∉ l ∧ e = .returned (.int .i64 (-1))) ∧ w' = w := by
  obtain ⟨a, cap, rfl⟩ := Raw.slice h
  have H := Lib.hid h; clear h
  go_enter Tryz.func91, Tryz.ntmps91
  go_wp2
  go_loopw [8] (fun i wr => ∃ k : Nat, k ≤ l.length ∧ i = .int .i64 k ∧ wr = w ∧ ∀ j, (hj : j < l.length) → j < k → l[j] ≠ x) (fun i _ => l.length - (intOf i).toNat)
  case atStart => exact ⟨0, Nat.zero_le _, rfl, rfl, fun j _ hj => absurd hj (Nat.not_lt_zero _)⟩
  case round =>
    obtain ⟨k, hk, rfl, rfl, hno⟩ := hrel
    have HN := Lib.hid hno; clear hno
    by_cases hlt : k < l.length
    · obtain ⟨b, off, c', e', hb, h0⟩ := Ints.elem H.out hlt
      cases e'
      obtain ⟨y, hy⟩ : ∃ y, y = l[k] := ⟨_, rfl⟩
      have HY := Lib.hid hy
      rw [← hy] at h0; clear hy
      by_cases hx : x = y
      · subst hx
        go_wp2
        go_ret
        exact ⟨.inl ⟨k, hlt, HY.out.symm, fun j hj => HN.out j (by omega) hj, rfl⟩, rfl⟩
      · go_wp2
        go_roundw
        case rel => exact ⟨k + 1, by omega, by go_num, trivial, fun j hj hjk => by
          by_cases e : j = k
          · subst e; rw [← HY.out]; exact fun h => hx h.symm
          · exact HN.out j hj (by omega)⟩
        case measure => simp [intOf]; omega
    · obtain rfl : k = l.length := by omega
      go_wp2
      go_ret
      exact ⟨.inr ⟨fun hm => by
        obtain ⟨j, hj, he⟩ := List.getElem_of_mem hm
        exact HN.out j hj hj he, rfl⟩, rfl⟩
/-- slices.Clone -/
theorem el24 : Rw.Elem Tryz.prog 22 3 1 8 (.int .i64 0) := ⟨Tryz.underlying22, by kernel_rfl, rfl, by decide⟩
set_option maxHeartbeats 400000 in
theorem clone27 {F : List Nat} {v : Value} {n : Nat} {xs : List Value} (w : World) (hl : n ≤ 1000000) (hr : Raw F 1 w v n xs) :
    Calls Tryz.prog 39 #[v] w fun e w' => ∃ v', e = .returned v' ∧ w'.ownsRow w.heap.size 3 1 v' n xs ∧ Below w.heap.size w w' := by
  have q32 : ∀ (w : World) (a : Option Addr) (n c n' c' : Nat), (binOp .eql 22 (.slice a n c) (.slice none n' c')).run Tryz.prog w = .ok (.bool a.isNone) w := fun w a n c n' c' => Lib.run_eql_slice_nil w _ _ a n c n' c' Tryz.underlying22
  obtain ⟨a, cap, hv⟩ : ∃ a cap, v = .slice a n cap := by obtain ⟨_, _, a, cap, h, _⟩ := hr; exact ⟨a, cap, h⟩
  have Hr := Lib.hid (hr.alloc (.cells #[] 3))
  have Hemp := Lib.hid (own_empty w w.heap.size 3 1 (Nat.le_refl _))
  cases a with
  | none =>
    have h0 : n = 0 ∧ xs = [] := by
      rcases hr.cases with ⟨h0, h1, _⟩ | ⟨_, b, off, c, h, _⟩
      · exact ⟨h0, h1⟩
      · rw [hv] at h; cases h
    obtain ⟨rfl, rfl⟩ := h0
    subst hv
    go_enter Tryz.func39, Tryz.ntmps39
    go_wp2
    go_ret
    exact ⟨_, rfl, World.ownsRow_nil _ _ _ _, Below.refl _ _⟩
  | some ad =>
    subst hv
    clear hr
    go_enter Tryz.func39, Tryz.ntmps39
    go_wp2_with (at_builtin; refine wpList_append_raw el24 Tryz.underlying22 Hemp.out Hr.out rfl _ _ rfl rfl rfl ?c3 ?c4 ?c5 ?_)
    case c3 => unfold maxLen; omega
    case c4 => omega
    case c5 => simp
    · intro v' w1 hown hgrow
      have hfin : Below w.heap.size w w1 := ((Below.refl w.heap.size w).alloc (Nat.le_refl _) _).grown hgrow (by simp) (fun q hq => by simp [Value.ownBlock] at hq; omega)
      have Hown : Hid (w1.ownsRow w.heap.size 3 1 v' n xs) := Lib.hid (by simpa using hown)
      clear hown hgrow
      go_wp2
      go_ret
      exact ⟨_, rfl, Hown.out, hfin⟩

set_option maxHeartbeats 400000 in
theorem closure_ok {t : Int} (h1 : 1 ≤ t) (h2 : t < 32) (w : World) : Calls Tryz.prog 88 #[.int .i64 t] w fun e w' => e = .returned (.bool false) ∧ w = w' := by
  go_enter Tryz.func88, Tryz.ntmps88
  go_wp2_with fail
  refine (proper_ok h1 h2 _).mono ?_
  rintro e w1 ⟨rfl, rfl⟩
  go_wp2
  go_ret
  exact ⟨rfl, rfl⟩
set_option maxRecDepth 100000 in
set_option maxHeartbeats 1000000 in
theorem indexF_ok (l : List Int) (v : Value) (w : World) (hl : l.length ≤ 1000) (h : Ints [] w v l) (hp : ∀ x ∈ l, 1 ≤ x ∧ x < 32) :
    Calls Tryz.prog 82 #[v, .func (.func 88) #[] #[]] w fun e w' => e = .returned (.int .i64 (-1)) ∧ w' = w := by
  obtain ⟨a, cap, rfl⟩ := Raw.slice h
  have H := Lib.hid h; clear h
  have HP := Lib.hid hp; clear hp
  go_enter Tryz.func82, Tryz.ntmps82
  go_wp2
  go_loopw [8] (fun i wr => ∃ k : Nat, k ≤ l.length ∧ i = .int .i64 k ∧ wr = w) (fun i _ => l.length - (intOf i).toNat)
  case atStart => exact ⟨0, Nat.zero_le _, rfl, rfl⟩
  case round =>
    obtain ⟨k, hk, rfl, rfl⟩ := hrel
    by_cases hlt : k < l.length
    · obtain ⟨b, off, c', e', hb, h0⟩ := Ints.elem H.out hlt
      cases e'
      have hx := HP.out _ (List.getElem_mem hlt)
      generalize l[k] = x at h0 hx
      go_wp2_with fail
      refine (closure_ok hx.1 hx.2 _).mono ?_
      rintro e w1 ⟨rfl, rfl⟩
      go_wp2
      go_roundw
      case rel => exact ⟨k + 1, by omega, by go_num, trivial⟩
      case measure => simp [intOf]; omega
    · obtain rfl : k = l.length := by omega
      go_wp2
      go_ret
      exact ⟨rfl, rfl⟩
set_option maxHeartbeats 400000 in
theorem contains_ok (l : List Int) (v : Value) (w : World) (hl : l.length ≤ 1000) (h : Ints [] w v l) (hp : ∀ x ∈ l, 1 ≤ x ∧ x < 32) :
    Calls Tryz.prog 59 #[v, .func (.func 88) #[] #[]] w fun e w' => e = .returned (.bool false) ∧ w' = w := by
  obtain ⟨a, cap, rfl⟩ := Raw.slice h
  have H := Lib.hid h; clear h
  have HP := Lib.hid hp; clear hp
  go_enter Tryz.func59, Tryz.ntmps59
  go_wp2_with fail
  refine (indexF_ok l _ _ hl H.out HP.out).mono ?_
  rintro e w1 ⟨rfl, rfl⟩
  go_wp2
  go_ret
  exact ⟨rfl, rfl⟩
end Go.Proofs.YthmnhpakgjnngaaGreatDoor
