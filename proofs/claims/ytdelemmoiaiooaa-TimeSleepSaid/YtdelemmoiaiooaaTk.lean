/- time: the plain step; effects; the closure; Index, Contains, IndexFunc -/
import Derived.Test.YtdelemmoiaiooaaTj
namespace Go.Rw
open Go Go.RowKit Go.Bs Go.Cl
theorem results_c {P : Program} {fn : Func} {q : Tmp} {ty : TypeId} (h : fn.results = #[.cell q ty]) (tmps : Array Value) (w : World) (g : Nat) (t : TypeId) (cs : Array Value) (fr : Nat × Nat) (d : TypeDesc)
    (hp : tmps.getD q undef = .pointer (some ⟨g, 0, none⟩)) (hg : w.heap[g]? = some (.cells cs t fr))
    (hu : P.underlying ty = some d) (hd : (match d with | .struct _ | .array _ _ => true | _ => false) = true) (hi : (P.info? ty).map (·.size) = some cs.size) :
    (results fn tmps).run P w = .ok (.agg cs) w := by
  have hp' : tmps[q]?.getD undef = .pointer (some ⟨g, 0, none⟩) := by simpa using hp
  simp [results, h, hp', asAddr, run_loadVar_row w g t ty cs fr d hg hu hd hi]
end Go.Rw
namespace Go.Ti
open Go Go.RowKit Go.Bs Go.Cl Go.Rw Go.Wi
/-- an effect -/
structure Ef where
  k : Int
  a0 : Int
  a1 : Int
  md : Int
  mc : Int
  ma : Int
def encE (x : Ef) : List Value := [.int .i64 x.k, .int .i64 x.a0, .int .i64 x.a1, .int .i64 0, .int .i64 0, .int .i64 0, .int .i64 x.md, .int .i64 x.mc, .int .i64 0, .int .i64 x.ma, .int .i64 0, .int .i64 0, .int .i64 0, .slice none 0 0, .slice none 0 0]
theorem encE_len (x : Ef) : (encE x).length = 15 := rfl
theorem encE_one (l : List Ef) : ∀ u ∈ l.flatMap encE, u.oneCell' = true := by
  intro u hu
  obtain ⟨x, _, h⟩ := List.mem_flatMap.1 hu
  simp [encE] at h
  rcases h with rfl | rfl | rfl | rfl | rfl | rfl | rfl | rfl | rfl | rfl | rfl | rfl | rfl | rfl <;> rfl
def reply (t r : Int) : Ef := ⟨2, t, r, 0, 0, 0⟩
def timer (n t : Int) : Ef := ⟨4, n, t, 0, 0, 0⟩
def send (d k a : Int) : Ef := ⟨1, 0, 0, d, k, a⟩
def SlE (w : World) (v : Value) (l : List Ef) : Prop := Raw [] 15 w v l.length (l.flatMap encE)
theorem SlE.below {w w' : World} {v : Value} {l : List Ef} (h : SlE w v l) (hb : Below w.heap.size w w') : SlE w' v l := Raw.below h hb
/-- the state with a task, without it -/
def insT (l : List Int) (t : Int) : List Int := (l ++ [t]).mergeSort fun x y => decide (x ≤ y)
def delT (l : List Int) (t : Int) : List Int := l.filter fun x => !decide (x = t)
/-- a message -/
structure Ms where
  src : Int
  dst : Int
  kind : Int
  seq : Int
  a0 : Int
  a1 : Int
  a2 : Int
  a3 : Int
/-- the next state and the effects, or nothing -/
def sysT (l : List Int) (m : Ms) : Option (List Int × List Ef) :=
  if usr m.src = false ∨ m.src ∈ l then none
  else if m.a0 = 18 then some (l, [reply m.src m.a3])
  else if m.a0 ≠ 19 then none
  else if m.a1 < 0 ∨ 1000000 < m.a1 then some (l, [reply m.src (-2)])
  else if m.a1 = 0 then some (l, [reply m.src 0])
  else some (insT l m.src, [timer m.a1 m.src])
def takeT (l : List Int) (m : Ms) : Option (List Int × List Ef) :=
  if m.dst ≠ 10 then none
  else if m.kind = 6 ∧ m.src = 1 then some (l, [send 1 7 m.a0])
  else if m.kind = 1 then sysT l m
  else if m.kind = 4 ∧ m.src = 0 ∧ usr m.a0 = true then some (delT l m.a0, if m.a0 ∈ l then [reply m.a0 0] else [])
  else if m.kind = 16 ∧ m.src = 3 ∧ usr m.a0 = true then some (delT l m.a0, (if m.a0 ∈ l then [timer (-1) m.a0] else []) ++ [send 3 17 m.a0])
  else none
end Go.Ti
namespace Go.Proofs.Ytdelemmoiaiooaa
open Go.RowKit Go.Bs Go.Cl Go.Rw Go.Ti Go.Wi
set_option maxRecDepth 100000 in
theorem reply_any (t r : Int) (w : World) : Calls Try.prog 42 #[.int .i64 t, .int .i64 r] w fun e w' => e = .returned (.agg (encE (reply t r)).toArray) ∧ Below w.heap.size w w' := by
  go_enter Try.func42, Try.ntmps42
  go_wp2
  refine bodyPost_ret (results_c rfl _ _ _ _ _ _ _ rfl (heap_alloc_new w _) Try.underlying62 rfl (by kernel_rfl)) rfl ?_
  exact ⟨rfl, (Below.refl _ _).alloc (Nat.le_refl _) _⟩
set_option maxRecDepth 100000 in
theorem timer_any (n t : Int) (w : World) : Calls Try.prog 44 #[.int .i64 n, .int .i64 t] w fun e w' => e = .returned (.agg (encE (timer n t)).toArray) ∧ Below w.heap.size w w' := by
  go_enter Try.func44, Try.ntmps44
  go_wp2
  refine bodyPost_ret (results_c rfl _ _ _ _ _ _ _ rfl (heap_alloc_new w _) Try.underlying62 rfl (by kernel_rfl)) rfl ?_
  exact ⟨rfl, (Below.refl _ _).alloc (Nat.le_refl _) _⟩
set_option maxRecDepth 100000 in
theorem send_any (d k a : Int) (w : World) : Calls Try.prog 39 #[.int .i64 d, .int .i64 k, .int .i64 a] w fun e w' => e = .returned (.agg (encE (send d k a)).toArray) ∧ Below w.heap.size w w' := by
  go_enter Try.func39, Try.ntmps39
  go_wp2
  refine bodyPost_ret (results_c rfl _ _ _ _ _ _ _ rfl (heap_alloc_new w _) Try.underlying62 rfl (by kernel_rfl)) rfl ?_
  exact ⟨rfl, (Below.refl _ _).alloc (Nat.le_refl _) _⟩
set_option maxRecDepth 100000 in
theorem rreply_any (t r : Int) (w : World) : Calls Try.prog 46 #[.int .i64 t, .int .i64 r] w fun e w' => e = .returned (.agg (encE (reply t r)).toArray) ∧ Below w.heap.size w w' := by
  go_enter Try.func46, Try.ntmps46
  go_wp2
  refine bodyPost_ret (results_c rfl _ _ _ _ _ _ _ rfl (heap_alloc_new w _) Try.underlying62 rfl (by kernel_rfl)) rfl ?_
  exact ⟨rfl, (Below.refl _ _).alloc (Nat.le_refl _) _⟩
set_option maxRecDepth 100000 in
theorem rtimer_any (n t : Int) (w : World) : Calls Try.prog 48 #[.int .i64 n, .int .i64 t] w fun e w' => e = .returned (.agg (encE (timer n t)).toArray) ∧ Below w.heap.size w w' := by
  go_enter Try.func48, Try.ntmps48
  go_wp2
  refine bodyPost_ret (results_c rfl _ _ _ _ _ _ _ rfl (heap_alloc_new w _) Try.underlying62 rfl (by kernel_rfl)) rfl ?_
  exact ⟨rfl, (Below.refl _ _).alloc (Nat.le_refl _) _⟩
set_option maxRecDepth 100000 in
theorem rsend_any (d k a : Int) (w : World) : Calls Try.prog 45 #[.int .i64 d, .int .i64 k, .int .i64 a] w fun e w' => e = .returned (.agg (encE (send d k a)).toArray) ∧ Below w.heap.size w w' := by
  go_enter Try.func45, Try.ntmps45
  go_wp2
  refine bodyPost_ret (results_c rfl _ _ _ _ _ _ _ rfl (heap_alloc_new w _) Try.underlying62 rfl (by kernel_rfl)) rfl ?_
  exact ⟨rfl, (Below.refl _ _).alloc (Nat.le_refl _) _⟩
theorem wake1_any (x t : Int) (r0 : Nat) (w : World) (c : w.cell? ⟨r0, 0, none⟩ = some (.int .i64 t)) : Calls Try.prog 60 #[.int .i64 x, .pointer (some ⟨r0, 0, none⟩)] w fun e w' => e = .returned (.bool (decide (x = t))) ∧ w = w' := by
  by_cases h : x = t
  · subst h
    go_enter Try.func60, Try.ntmps60
    go_wp2
    go_ret
    exact ⟨by simp, rfl⟩
  · go_enter Try.func60, Try.ntmps60
    go_wp2
    go_ret
    exact ⟨by simp [h], rfl⟩
/-- the first place of a number -/
def IsIx (l : List Int) (t r : Int) : Prop := (r = -1 ∧ t ∉ l) ∨ ∃ k : Nat, r = k ∧ k < l.length ∧ at_ l k = t ∧ ∀ j, j < k → at_ l j ≠ t
theorem not_mem_at {l : List Int} {t : Int} (h : ∀ j, j < l.length → at_ l j ≠ t) : t ∉ l := fun hm => by
  obtain ⟨j, hj, he⟩ := List.mem_iff_getElem.1 hm
  exact h j hj (by simpa [at_, hj] using he)
set_option maxRecDepth 100000 in
set_option maxHeartbeats 1000000 in
theorem index_any (v : Value) (l : List Int) (t : Int) (w : World) (hl : l.length ≤ 1000000) (h : SlT w v l) : Calls Try.prog 65 #[v, .int .i64 t] w fun e w' => ∃ r, e = .returned (.int .i64 r) ∧ IsIx l t r ∧ Below w.heap.size w w' := by
  obtain ⟨a, cap, rfl⟩ := Raw.slice h
  have H := Lib.hid h; clear h
  go_enter Try.func65, Try.ntmps65
  go_wp2
  go_loopw [8] (fun i wr => ∃ k : Nat, k ≤ l.length ∧ i = .int .i64 k ∧ Below w.heap.size w wr ∧ ∀ j, j < k → at_ l j ≠ t) (fun i _ => l.length - (intOf i).toNat)
  case atStart => exact ⟨0, Nat.zero_le _, rfl, Below.refl _ _, fun j hj => by omega⟩
  case round =>
    obtain ⟨k, hk, rfl, hbel, hno⟩ := hrel
    have Hbel := Lib.hid hbel
    have Hno := Lib.hid hno
    clear hno
    by_cases hlt : k < l.length
    · obtain ⟨b, off, rfl, hb, h0⟩ := (H.out.below hbel).elem hlt
      clear hbel
      by_cases he : at_ l k = t
      · rw [he] at h0
        go_wp2
        go_ret
        exact ⟨_, rfl, .inr ⟨k, rfl, hlt, he, Hno.out⟩, Hbel.out⟩
      · have he2 : ¬ t = at_ l k := fun e => he e.symm
        go_wp2
        go_roundw
        case rel => exact ⟨k + 1, hlt, by go_num, Hbel.out, fun j hj => by
            rcases Nat.lt_or_ge j k with h | h
            · exact Hno.out j h
            · obtain rfl : j = k := by omega
              exact he⟩
        case measure => simp [intOf]; omega
    · obtain rfl : k = l.length := by omega
      go_wp2
      go_ret
      exact ⟨_, rfl, .inl ⟨rfl, not_mem_at Hno.out⟩, Hbel.out⟩
set_option maxRecDepth 100000 in
set_option maxHeartbeats 1000000 in
theorem indexf_any (v : Value) (l : List Int) (t : Int) (r0 : Nat) (w : World) (hl : l.length ≤ 1000000) (h : SlT w v l) (c : w.cell? ⟨r0, 0, none⟩ = some (.int .i64 t)) (hr0 : r0 < w.heap.size) : Calls Try.prog 66 #[v, .func (.func 60) #[] #[.pointer (some ⟨r0, 0, none⟩)]] w fun e w' => ∃ r, e = .returned (.int .i64 r) ∧ IsIx l t r ∧ Below w.heap.size w w' := by
  obtain ⟨a, cap, rfl⟩ := Raw.slice h
  have H := Lib.hid h; clear h
  go_enter Try.func66, Try.ntmps66
  go_wp2
  go_loopw [8] (fun i wr => ∃ k : Nat, k ≤ l.length ∧ i = .int .i64 k ∧ Below w.heap.size w wr ∧ ∀ j, j < k → at_ l j ≠ t) (fun i _ => l.length - (intOf i).toNat)
  case atStart => exact ⟨0, Nat.zero_le _, rfl, Below.refl _ _, fun j hj => by omega⟩
  case round =>
    obtain ⟨k, hk, rfl, hbel, hno⟩ := hrel
    have Hbel := Lib.hid hbel
    have Hno := Lib.hid hno
    have c' : wr.cell? ⟨r0, 0, none⟩ = some (.int .i64 t) := (hbel.cell (p := ⟨r0, 0, none⟩) hr0).trans c
    clear hno
    by_cases hlt : k < l.length
    · obtain ⟨b, off, rfl, hb, h0⟩ := (H.out.below hbel).elem hlt
      clear hbel
      go_wp2_with fail
      refine (wake1_any (at_ l k) t r0 _ c').mono ?_
      rintro e w1 ⟨rfl, rfl⟩
      by_cases he : at_ l k = t
      · rw [show decide (at_ l k = t) = true from by simp [he]]
        go_wp2
        go_ret
        exact ⟨_, rfl, .inr ⟨k, rfl, hlt, he, Hno.out⟩, Hbel.out⟩
      · rw [show decide (at_ l k = t) = false from by simp [he]]
        go_wp2
        go_roundw
        case rel => exact ⟨k + 1, hlt, by go_num, Hbel.out, fun j hj => by
            rcases Nat.lt_or_ge j k with h | h
            · exact Hno.out j h
            · obtain rfl : j = k := by omega
              exact he⟩
        case measure => simp [intOf]; omega
    · obtain rfl : k = l.length := by omega
      go_wp2
      go_ret
      exact ⟨_, rfl, .inl ⟨rfl, not_mem_at Hno.out⟩, Hbel.out⟩
theorem mem_at {l : List Int} {k : Nat} (h : k < l.length) : at_ l k ∈ l := by
  rw [show at_ l k = l[k] by simp [at_, h]]
  exact List.getElem_mem h
theorem contains_any (v : Value) (l : List Int) (t : Int) (w : World) (hl : l.length ≤ 1000000) (h : SlT w v l) : Calls Try.prog 58 #[v, .int .i64 t] w fun e w' => e = .returned (.bool (decide (t ∈ l))) ∧ Below w.heap.size w w' := by
  obtain ⟨a, cap, rfl⟩ := Raw.slice h
  have H := Lib.hid h; clear h
  go_enter Try.func58, Try.ntmps58
  go_wp2_with fail
  refine (index_any _ l t _ hl H.out).mono ?_
  rintro e w1 ⟨r, rfl, hix, hb⟩
  have Hb := Lib.hid hb; clear hb
  rcases hix with ⟨rfl, hn⟩ | ⟨k, rfl, hk, he, _⟩
  · go_wp2
    go_ret
    exact ⟨by simp [hn], Hb.out⟩
  · have hm : t ∈ l := he ▸ mem_at hk
    go_wp2
    go_ret
    exact ⟨by simp [hm], Hb.out⟩
end Go.Proofs.Ytdelemmoiaiooaa
