/- Undo: slices.Backward over records -/
import Derived.Test.YtnbngidelpodkaaUc
import Derived.RangeFuncNested
import Derived.RangeFuncBox
import Derived.RangeFuncLeaves
import Derived.RangeFuncCalls
import Derived.OwnWalkIn
import Derived.TacticsInMore
import Derived.LoopNIn
import Derived.LoopIn
namespace Go.Un
open Go Go.RowKit Go.Bs Go.Cl Go.Rw
def encR (p : Rec × Value) : List Value := [.int .i64 p.1.off, .int .i64 p.1.len, p.2]
theorem encR_len (p : Rec × Value) : (encR p).length = 3 := rfl
def aggR (p : Rec × Value) : Value := .agg #[.int .i64 p.1.off, .int .i64 p.1.len, p.2]
def recAt (rs : List (Rec × Value)) (j : Nat) : Rec × Value := rs.getD j (⟨0, 0, []⟩, .slice none 0 0)
/-- the places that have come when k rounds are over, from the last one on -/
def bk (n : Nat) : Nat → List (Fin n)
  | 0 => []
  | k + 1 => if h : k < n then bk n k ++ [⟨n - 1 - k, by omega⟩] else bk n k
theorem bk_succ {n k : Nat} (h : k < n) : bk n (k + 1) = bk n k ++ [⟨n - 1 - k, by omega⟩] := by simp [bk, h]
theorem bk_len {n : Nat} : ∀ {k : Nat}, k ≤ n → (bk n k).length = k
  | 0, _ => rfl
  | k + 1, h => by rw [bk_succ (by omega), List.length_append, bk_len (by omega)]; rfl
theorem recAt_get {rs : List (Rec × Value)} {j : Nat} (h : j < rs.length) : rs[j]? = some (recAt rs j) := by simp [recAt, h]
/-- kept: what lies below n₀, and the box Bs -/
def KB (n₀ Bs : Nat) (A B : World) : Prop := Below n₀ A B ∧ B.cell? ⟨Bs, 0, none⟩ = A.cell? ⟨Bs, 0, none⟩
theorem KB.refl (n₀ Bs : Nat) (A : World) : KB n₀ Bs A A := ⟨Below.refl _ _, rfl⟩
theorem KB.trans {n₀ Bs : Nat} {A B C : World} (h : KB n₀ Bs A B) (k : KB n₀ Bs B C) : KB n₀ Bs A C := ⟨h.1.trans k.1, k.2.trans h.2⟩
theorem KB.of_below {n₀ Bs N : Nat} {A B : World} (h : Below N A B) (h1 : n₀ ≤ N) (h2 : Bs < N) : KB n₀ Bs A B := ⟨h.mono h1, h.cell (p := ⟨Bs, 0, none⟩) h2⟩
theorem KB.put {n₀ Bs : Nat} {w : World} (hn : n₀ ≤ w.heap.size) (hB : Bs < w.heap.size) (W : World) (l : Nat) (o o' : Obj) (hl : w.heap.size ≤ l) (h : W.heap[l]? = some o) (h1 : o.isCells = false) (h2 : o.isWalk = false) : KB n₀ Bs W (W.putObj l o') :=
  ⟨belowK_b hn W l o o' hl h h1 h2, World.cell?_of_block (w := W) (World.putObj_heap_other (by show Bs ≠ l; omega))⟩
/-- the image when the records at some places were taken back -/
def imgAt (b : List UInt8) (rs : List (Rec × Value)) (pre : List (Fin rs.length)) : List UInt8 := pre.foldl (fun b (m : Fin rs.length) => takeR b (recAt rs m.val).1) b
theorem imgAt_snoc (b : List UInt8) (rs : List (Rec × Value)) (pre : List (Fin rs.length)) (m : Fin rs.length) : imgAt b rs (pre ++ [m]) = takeR (imgAt b rs pre) (recAt rs m).1 := by simp [imgAt]
theorem imgAt_bk (b : List UInt8) (rs : List (Rec × Value)) : ∀ {k : Nat}, k ≤ rs.length → imgAt b rs (bk rs.length k) = takeAll b ((rs.drop (rs.length - k)).map (·.1))
  | 0, _ => by simp [bk, imgAt, takeAll]
  | k + 1, h => by
    rw [bk_succ (by omega), imgAt_snoc, imgAt_bk b rs (by omega)]
    obtain ⟨m, hm⟩ : ∃ m : Nat, m + k + 1 = rs.length := ⟨rs.length - k - 1, by omega⟩
    have e1 : rs.length - (k + 1) = m := by omega
    have e2 : rs.length - k = m + 1 := by omega
    have e3 : rs.length - 1 - k = m := by omega
    have hml : m < rs.length := by omega
    rw [e1, e2]
    simp only [e3]
    rw [List.drop_eq_getElem_cons hml]
    have := recAt_get hml
    rw [List.getElem?_eq_getElem hml] at this
    rw [Option.some.inj this]
    rfl
end Go.Un
namespace Go.Proofs.Ytnbngidelpodkaa
open Go.RowKit Go.Bs Go.Cl Go.Rw Go.Un
attribute [local go_sem] Oper.semAt_some

set_option maxRecDepth 100000 in
set_option maxHeartbeats 2000000 in
theorem back1_in (n : Nat) (hn : 1 ≤ n) (l Bs n₀ b off cap : Nat) (rs : List (Rec × Value)) (hreach : rs.length ≤ 1000000) (hb : b < n₀) (J Jx : List (Fin rs.length) → World → Prop)
    (hY : ∀ (pre : List (Fin rs.length)) (x : Fin rs.length) (W : World), J pre W → pre.length < rs.length → YieldAt Fence.wide (n - 1) Try.prog l #[.int .i64 ((x.val : Nat) : Int), aggR (recAt rs x.val)] W fun e W' =>
      (e = .returned (.bool true) ∧ J (pre ++ [x]) W' ∧ KB n₀ Bs W W') ∨ (e = .returned (.bool false) ∧ Jx (pre ++ [x]) W'))
    (W : World) (hBs : W.cell? ⟨Bs, 0, none⟩ = some (.slice (some ⟨b, off, none⟩) rs.length cap)) (hc : ∀ j u, (rs.flatMap encR)[j]? = some u → W.cell? ⟨b, off + j, none⟩ = some u) (h0 : J [] W) :
    CallsIn Fence.wide n Try.prog 66 #[.func (.yield l) #[] #[], .pointer (some ⟨Bs, 0, none⟩)] W fun e W' => (∃ v, e = .returned v) ∧
      ((∃ ys, ys = bk rs.length rs.length ∧ J ys W') ∨ (∃ pre, (∃ k, k ≤ rs.length ∧ pre = bk rs.length k) ∧ Jx pre W')) := by
  refine callsIn_of_wp Try.func66 rfl trivial ?_ rfl
  simp only [Try.ntmps66, List.size_toArray, List.length_cons, List.length_nil, Nat.reduceAdd, Nat.reduceSub, Array.replicate_succ, Array.replicate_zero, List.push_toArray, List.append_toArray, List.nil_append, List.cons_append]
  have Hc := Lib.hid hc; clear hc
  gi_wp2
  gi_loopw [3] (fun i wr => ∃ k : Nat, k ≤ rs.length ∧ i = .int .i64 ((rs.length : Int) - 1 - (k : Int)) ∧ J (bk rs.length k) wr ∧ KB n₀ Bs W wr)
    (fun i _ => ((intOf i) + 1).toNat)
  case atStart => exact ⟨0, Nat.zero_le _, by simp, h0, KB.refl _ _ _⟩
  case round =>
    obtain ⟨k, hk, rfl, hJs, hnx⟩ := hrel
    by_cases hlt : k < rs.length
    · obtain ⟨m, hm⟩ : ∃ m : Nat, m + k + 1 = rs.length := ⟨rs.length - k - 1, by omega⟩
      have hmi : (rs.length : Int) - 1 - (k : Int) = (m : Int) := by omega
      rw [hmi]
      have hmk : rs.length - 1 - k = m := by omega
      have hml : m < rs.length := by omega
      have hsucc : bk rs.length (k + 1) = bk rs.length k ++ [⟨m, hml⟩] := by
        rw [bk_succ hlt]; congr 2; exact Fin.ext hmk
      have hget := recAt_get hml
      have g0 := flat_get encR encR_len rs m 0 _ hget (by omega)
      have g1 := flat_get encR encR_len rs m 1 _ hget (by omega)
      have g2 := flat_get encR encR_len rs m 2 _ hget (by omega)
      have Hcell : ∀ j u, (rs.flatMap encR)[j]? = some u → wr.cell? ⟨b, off + j, none⟩ = some u := fun j u h => (hnx.1.cell (p := ⟨b, off + j, none⟩) hb).trans (Hc.out j u h)
      have e0 := Hcell _ _ g0
      have e1 := Hcell _ _ g1
      have e2 := Hcell _ _ g2
      have hBs' := hnx.2.trans hBs
      obtain ⟨q, hq⟩ : ∃ q, q = recAt rs m := ⟨_, rfl⟩
      rw [← hq] at e0 e1 e2
      have Hsucc := Lib.hid hsucc
      obtain ⟨fn, tmps, assign, body, hy, hR⟩ := hY _ ⟨m, hml⟩ wr hJs (by rw [bk_len hk]; exact hlt)
      dsimp only [aggR] at hy
      rw [← hq] at hy
      have e0' : wr.cell? ⟨b, off + m * 3, none⟩ = some (.int .i64 q.1.off) := e0
      have e1' : wr.cell? ⟨b, off + m * 3 + 1, none⟩ = some (.int .i64 q.1.len) := e1
      have e2' : wr.cell? ⟨b, off + m * 3 + 2, none⟩ = some q.2 := e2
      have hml' : (m : Int) < rs.length := by omega
      have hmi2 : (m : Int) - 1 = (rs.length : Int) - 1 - ((k + 1 : Nat) : Int) := by omega
      have Hmi2 := Lib.hid hmi2
      clear hmi hmk hsucc hget g0 g1 g2 Hcell e0 e1 e2 hq hmi2
      gi_wp2
      refine hR.mono ?_
      rintro e W3 (⟨rfl, hJ3, hk3⟩ | ⟨rfl, hJx3⟩)
      · gi_wp2
        go_roundw
        case rel => exact ⟨k + 1, by omega, by rw [Hmi2.out], by rw [Hsucc.out]; exact hJ3, hnx.trans hk3⟩
        case measure => simp [intOf]
      · gi_wp2
        refine bodyPost_ret (results_none rfl _ _ _) rfl ?_
        exact ⟨⟨_, rfl⟩, .inr ⟨_, ⟨k + 1, by omega, Hsucc.out.symm⟩, hJx3⟩⟩
    · obtain rfl : k = rs.length := by omega
      have hneg : (rs.length : Int) - 1 - (rs.length : Int) = -1 := by omega
      rw [hneg]
      gi_wp2
      go_end0
      exact ⟨⟨_, rfl⟩, .inl ⟨_, rfl, hJs⟩⟩

set_option maxRecDepth 100000 in
set_option maxHeartbeats 1000000 in
theorem back0_in (n : Nat) (l Bs : Nat) (a : Option Addr) (cap : Nat) (J : List (Fin 0) → World → Prop) (W : World) (hBs : W.cell? ⟨Bs, 0, none⟩ = some (.slice a 0 cap)) (h0 : J [] W) :
    CallsIn Fence.wide n Try.prog 66 #[.func (.yield l) #[] #[], .pointer (some ⟨Bs, 0, none⟩)] W fun e W' => (∃ v, e = .returned v) ∧ J [] W' := by
  refine callsIn_of_wp Try.func66 rfl trivial ?_ rfl
  simp only [Try.ntmps66, List.size_toArray, List.length_cons, List.length_nil, Nat.reduceAdd, Nat.reduceSub, Array.replicate_succ, Array.replicate_zero, List.push_toArray, List.append_toArray, List.nil_append, List.cons_append]
  gi_wp2
  gi_loopw [3] (fun i wr => i = .int .i64 (-1) ∧ J [] wr) (fun _ _ => 0)
  case atStart => exact ⟨rfl, h0⟩
  case round =>
    obtain ⟨rfl, hJs⟩ := hrel
    gi_wp2
    go_end0
    exact ⟨⟨_, rfl⟩, hJs⟩

set_option maxHeartbeats 1000000 in
theorem backward_any (a : Option Addr) (len cap : Nat) (w : World) :
    Calls Try.prog 64 #[.slice a len cap] w fun e w' => e = .returned (.func (.func 66) #[] #[.pointer (some ⟨w.heap.size, 0, none⟩)]) ∧ w' = w.alloc (.cells #[.slice a len cap] 85) := by
  go_enter Try.func64, Try.ntmps64
  go_wp2
  go_ret
  exact ⟨rfl, rfl⟩

theorem back_stops (n : Nat) (hn : 1 ≤ n) (Bs n₀ : Nat) (v : Value) (rs : List (Rec × Value)) (hl : rs.length ≤ 1000000) (w : World) (hBs : Bs < w.heap.size) (hn₀ : n₀ ≤ w.heap.size)
    (hc : w.cell? ⟨Bs, 0, none⟩ = some v) {F : List Nat} (hR : Raw F 3 w v rs.length (rs.flatMap encR)) (hn2 : ∀ b o c, v = .slice (some ⟨b, o, none⟩) rs.length c → 0 < rs.length → b < n₀) :
    SeqStopsK Fence.wide n Try.prog 66 #[.pointer (some ⟨Bs, 0, none⟩)] (fun x : Fin rs.length => #[Value.int .i64 ((x.val : Nat) : Int), aggR (recAt rs x)]) (KB n₀ Bs) (fun ys => ys = bk rs.length rs.length)
      (fun pre => ∃ k, k ≤ rs.length ∧ pre = bk rs.length k) rs.length w := fun l J Jx W hW _ _ hY h0 => by
  have hc' := (hW.cell (p := ⟨Bs, 0, none⟩) hBs).trans hc
  rcases Raw.cases hR with ⟨h, hx, a, cap, rfl, _⟩ | ⟨h, b, off, cap, rfl, _, _, hb, _, hcs⟩
  · obtain rfl : rs = [] := List.eq_nil_of_length_eq_zero h
    exact (back0_in n l Bs a cap J W hc' h0).mono fun e W' ⟨he, hj⟩ => ⟨he, .inl ⟨_, rfl, hj⟩⟩
  · exact back1_in n hn l Bs n₀ b off cap rs hl (hn2 b off cap rfl h) J Jx hY W hc' (fun j u hj => (hW.cell (p := ⟨b, off + j, none⟩) hb).trans (hcs j u hj)) h0
end Go.Proofs.Ytnbngidelpodkaa
