/- A region that draws its order may be walked in the order of its text: the orders. -/
import Derived.Test.YtlomhelcphhinaaTx
import Derived.OrdersHeld
import Derived.Laws.AppendOwn
namespace Go.Txt
open Go
variable {P : Program}

/-! ### What a load reads -/
/-- hangs on block b alone -/
def At (P : Program) (b : Nat) {α : Type} (s : Sem α) : Prop := ∀ w u w1, s.run P w = .ok u w1 → (∃ c e f, w.heap[b]? = some (.cells c e f)) → w1 = w ∧ ∀ w', w'.heap[b]? = w.heap[b]? → s.run P w' = .ok u w'
theorem Calm.at {α : Type} {s : Sem α} {b : Nat} (h : Calm P s) : At P b s := fun w u w1 e _ => ⟨(h w u w1 e).1, fun w' _ => (h w u w1 e).2 w'⟩
theorem at_bind {α β : Type} {b : Nat} {x : Sem α} {f : α → Sem β} (h : At P b x) (k : ∀ a, At P b (f a)) : At P b (x >>= f) := fun w u w1 e hc => by
  obtain ⟨a, w2, e1, e2⟩ := bind_ok e
  obtain ⟨rfl, h'⟩ := h w a w2 e1 hc
  obtain ⟨rfl, k'⟩ := k a _ u w1 e2 hc
  exact ⟨rfl, fun w' hw => by rw [Sem.run_bind, h' w' hw]; exact k' w' hw⟩
theorem at_ite {α : Type} {b : Nat} {c : Prop} [Decidable c] {x y : Sem α} (hx : At P b x) (hy : At P b y) : At P b (if c then x else y) := by split <;> assumption
theorem at_load (a : Addr) (m : Mode) : At P a.block (load a m) := fun w u w1 e hc => by
  obtain ⟨c, t, f, hc⟩ := hc
  simp only [load, Sem.run] at e
  split at e
  · rename_i v hv
    simp at e
    obtain ⟨rfl, rfl⟩ := e
    refine ⟨rfl, fun w' hw => ?_⟩
    have : w'.cell? a = some v := by rw [← hv]; exact World.cell?_of_block hw
    simp [load, Sem.run, this]
  · simp [World.farLoad, hc] at e
theorem at_loadCellsFrom (a : Addr) : ∀ (n i : Nat) (acc : Array Value), At P a.block (loadCellsFrom a i n acc)
  | 0, _, _ => (calm_pure _).at
  | n + 1, i, acc => by
    unfold loadCellsFrom
    have hb : (a.add i).block = a.block := by unfold Addr.add; split <;> rfl
    exact at_bind (hb ▸ at_load (a.add i) .plain) fun v => at_loadCellsFrom a n (i + 1) (acc.push v)
theorem at_loadVar (t : TypeId) (a : Addr) : At P a.block (loadVar t a) := by
  unfold loadVar
  refine at_bind (calm_isAgg t).at fun b => ?_
  refine at_ite ?_ (at_load _ _)
  exact at_bind (calm_sizeOf t).at fun _ => at_bind (at_loadCellsFrom a _ 0 _) fun _ => (calm_pure _).at

/-- the operand, if it is an address, is one in one of the blocks (else the load is stuck, or is not carried out) -/
def InB (blocks : List Nat) : Value → Prop
  | .pointer (some a) => a.block ∈ blocks
  | _ => True
/-- the bytes of a slice lie in one of the blocks -/
def InS (blocks : List Nat) : Value → Prop
  | .slice (some a) n _ => n = 0 ∨ a.block ∈ blocks
  | _ => True
def FloatAt (blocks : List Nat) (o : Oper) (ρ : Operand → Value) : Prop :=
  match o.op with
  | .load _ x => InB blocks (ρ x)
  | .convert _ _ x => InS blocks (ρ x)
  | _ => True
/-- the blocks are rows of cells, and as they were in w0 -/
def SameB (blocks : List Nat) (w0 w : World) : Prop := ∀ b ∈ blocks, (∃ c e f, w.heap[b]? = some (.cells c e f)) ∧ w.heap[b]? = w0.heap[b]?

theorem float_exec {blocks : List Nat} {w0 : World} {o : Oper} {ρ : Operand → Value} (hk : roKind P o = true) (hf : FloatAt blocks o ρ) {w : World} (hS : SameB blocks w0 w) {n : Next} {w1 : World}
    (e : (execOp ρ o).run P w = .ok n w1) : ∃ u, n = .value u ∧ w1 = w ∧ ∀ w', SameB blocks w0 w' → (execOp ρ o).run P w' = .ok (.value u) w' := by
  obtain ⟨dst, op, type, pos, after, guard⟩ := o
  cases op <;> simp [roKind] at hk
  case load t x =>
    simp only [FloatAt] at hf
    simp only [execOp] at e ⊢
    obtain ⟨u, w2, e1, e2⟩ := bind_ok e
    simp [Sem.run, pure] at e2
    obtain ⟨rfl, rfl⟩ := e2
    unfold Instr.loadAt at e1
    obtain ⟨a, w3, e3, e4⟩ := bind_ok e1
    unfold Instr.sureAddr at e3
    split at e3
    · rename_i v a' hv
      simp [Sem.run, pure] at e3
      obtain ⟨rfl, rfl⟩ := e3
      rw [hv] at hf
      obtain ⟨hc, hw⟩ := hS _ hf
      obtain ⟨rfl, h'⟩ := at_loadVar t a' w u w2 e4 hc
      refine ⟨u, rfl, rfl, fun w' hS' => ?_⟩
      obtain ⟨_, hw'⟩ := hS' _ hf
      rw [Sem.run_bind, hv]
      simp only [Instr.loadAt, Instr.sureAddr]
      rw [Sem.run_bind]
      simp only [Sem.run, pure, Result.andThen_ok]
      rw [h' w' (hw'.trans hw.symm)]
      rfl
    · exact absurd e3 (never_stuck _ _ _ _)
  case convert s d x =>
    simp only [FloatAt] at hf
    simp only [execOp] at e ⊢
    obtain ⟨u, w2, e1, e2⟩ := bind_ok e
    simp [Sem.run, pure] at e2
    obtain ⟨rfl, rfl⟩ := e2
    rw [convert_str hk.1 hk.2] at e1
    have key : w2 = w ∧ ∀ w', SameB blocks w0 w' → (convert s d (ρ x)).run P w' = .ok u w' := by
      have hcv := fun w' => convert_str hk.1 hk.2 (ρ x) w'
      revert e1 hf
      generalize ρ x = v at hcv ⊢
      intro hf e1
      have calm : ∀ s0 : Sem Value, Calm P s0 → s0.run P w = .ok u w2 → (∀ w', (convert s d v).run P w' = s0.run P w') → w2 = w ∧ ∀ w', SameB blocks w0 w' → (convert s d v).run P w' = .ok u w' := fun s0 hc h1 h2 => by
        obtain ⟨rfl, h'⟩ := hc w u w2 h1
        exact ⟨rfl, fun w' _ => by rw [h2, h' w']⟩
      cases v
      case int => exact calm _ (calm_pure _) e1 hcv
      case string => exact calm _ (calm_pure _) e1 hcv
      case slice a n c =>
        cases a with
        | none => exact calm _ (calm_pure _) e1 hcv
        | some ad =>
          simp only [Conv.bytesToString] at e1 hcv
          rcases hf with h0 | hm
          · subst h0
            refine calm _ (calm_bind (calm_pure _) fun cs => calm_str cs) e1 hcv
          · have hat : At P ad.block (do
                let mut s := ByteArray.empty
                for c in ← loadCells ad n do
                  let .int .u8 n := c | stuck "bytesToString: byte expected"
                  s := s.push (UInt8.ofNat n.toNat)
                pure (.string s) : Sem Value) := at_bind (at_loadCellsFrom ad n 0 #[]) fun cs => (calm_str cs).at
            obtain ⟨hc, hw⟩ := hS _ hm
            obtain ⟨rfl, h'⟩ := hat w u w2 e1 hc
            exact ⟨rfl, fun w' hS' => by rw [hcv]; exact h' w' ((hS' _ hm).2.trans hw.symm)⟩
      all_goals exact calm _ ((never_stuck _).calm) e1 hcv
    obtain ⟨rfl, h'⟩ := key
    exact ⟨u, rfl, rfl, fun w' hS' => by rw [Sem.run_bind, h' w' hS']; rfl⟩

/-! ### The orders -/
/-- no panic -/
def NP : Exit → Act → World → Prop
  | .panic _, _, _ => False
  | .outgrown, _, _ => False
  | _, _, _ => True
theorem NP.noOut (h : LetsOut NP) : False := by
  obtain ⟨a, w, h⟩ := h; exact h
section
variable {ops : Array Oper} {Q : Exit → Act → World → Prop}
theorem wpOp_chg {Q' : Exit → Act → World → Prop} (hp : ∀ c a w, Q (.panic c) a w → Q' (.panic c) a w) (ho : LetsOut Q → LetsOut Q') {i : Nat} {K : Act → World → Prop} {a : Act} {w : World}
    (h : wpOp P ops Q i K a w) : wpOp P ops Q' i K a w := by
  unfold wpOp at *
  split
  · simpa [*] using h
  · rename_i o hi
    simp only [hi] at h
    split
    · rename_i hw
      simp only [hw, if_true] at h
      rcases h with h | ⟨h1, h2⟩
      case inr => exact .inr ⟨h1, ho h2⟩
      refine .inl ?_
      unfold Oper.wp at *
      generalize (execOp a.eval o).run P w = r at *
      cases r with
      | ok n w' =>
        cases n <;> simp only [Oper.upon] at h ⊢ <;> first | exact h | skip
        case enter f args =>
          refine Calls.mono h fun e w'' he => ?_
          cases e with
          | returned u => exact he
          | panicked c => exact hp _ _ _ he
          | outgrown => exact ho he
      | halt x w' =>
        cases x <;> simp only [Oper.upon] at h ⊢
        case panic u => exact hp _ _ _ h
    · rename_i hw; simpa [hw] using h

/-- what an operation makes of the state -/
def Form (o : Oper) (a a' : Act) : Prop := ∃ v, a' = a.put o.dst v ∨ ∃ d, a' = ({ a with defers := d :: a.defers } : Act).put o.dst v
theorem Form.slot {o : Oper} {a a' : Act} (h : Form o a a') (t : Nat) (ht : o.dst ≠ some t) : a'.tmps.getD t undef = a.tmps.getD t undef := by
  have hput : ∀ (a : Act) (v : Value), (a.put o.dst v).tmps.getD t undef = a.tmps.getD t undef := by
    intro a v
    cases hd : o.dst with
    | none => rfl
    | some d =>
      have : d ≠ t := fun e => ht (by rw [hd, e])
      simp [Act.put, Array.getElem?_setIfInBounds_ne this]
  obtain ⟨v, rfl | ⟨d, rfl⟩⟩ := h
  · exact hput _ _
  · exact hput { a with defers := d :: a.defers } _
theorem Form.same {o oi : Oper} {a a' : Act} (h : Form o a a') (hap : o.apart ops oi = true) (hs : ∀ cs b, oi.op ≠ .select cs b) :
    execOp a'.eval oi = execOp a.eval oi ∧ Region.wanted oi (yielded ops a'.tmps) = Region.wanted oi (yielded ops a.tmps) := by
  obtain ⟨g1, _, _⟩ := Oper.apart_spec hap
  obtain ⟨v, rfl | ⟨d, rfl⟩⟩ := h
  · exact ⟨execOp_put oi hs a o.dst v g1, wanted_put oi a o.dst v g1⟩
  · exact ⟨execOp_put oi hs { a with defers := d :: a.defers } o.dst v g1, wanted_put oi { a with defers := d :: a.defers } o.dst v g1⟩
theorem wpOp_form {i : Nat} {o : Oper} (hi : ops[i]? = some o) {K : Act → World → Prop} {a : Act} {w : World} (h : wpOp P ops (NP) i K a w) :
    wpOp P ops (NP) i (fun a' w' => Form o a a' ∧ K a' w') a w := by
  unfold wpOp at *
  simp only [hi] at *
  split
  · rename_i hw
    simp only [hw, if_true] at h
    rcases h with h | ⟨_, hlets⟩
    case inr => exact (NP.noOut hlets).elim
    refine .inl ?_
    unfold Oper.wp at *
    generalize (execOp a.eval o).run P w = r at *
    cases r with
    | ok n w' =>
      cases n <;> simp only [Oper.upon] at h ⊢
      case value u => exact ⟨⟨_, .inl rfl⟩, h⟩
      case skip => exact ⟨⟨_, .inl rfl⟩, h⟩
      case defer d => exact ⟨⟨_, .inr ⟨d, rfl⟩⟩, h⟩
      case enter f args =>
        refine Calls.mono h fun e w'' he => ?_
        cases e with
        | returned u => exact ⟨⟨_, .inl rfl⟩, he⟩
        | panicked c => exact he
        | outgrown => exact he
      case row row args => exact Rows.mono h fun u w'' he => ⟨⟨_, .inl rfl⟩, he⟩
    | halt x w' =>
      cases x <;> simp only [Oper.upon] at h ⊢
      case panic u => exact h
  · rename_i hw
    simp only [hw] at h
    exact ⟨⟨_, .inl rfl⟩, h⟩
theorem wpOp_some {i : Nat} {o : Oper} (hi : ops[i]? = some o) {K : Act → World → Prop} {a : Act} {w : World} (h : wpOp P ops (NP) i K a w) : ∃ a' w', K a' w' := by
  unfold wpOp at h
  simp only [hi] at h
  split at h
  · rcases h with h | ⟨_, h⟩
    · unfold Oper.wp at h
      generalize (execOp a.eval o).run P w = r at h
      cases r with
      | ok n w' =>
        cases n <;> simp only [Oper.upon] at h
        case value u => exact ⟨_, _, h⟩
        case skip => exact ⟨_, _, h⟩
        case defer d => exact ⟨_, _, h⟩
        case enter f args =>
          obtain ⟨e, w'', fr, hr, _⟩ := h []
          cases e with
          | returned v => exact ⟨_, _, hr⟩
          | panicked c => exact (hr : False).elim
          | outgrown => exact (NP.noOut hr).elim
        case row r args =>
          obtain ⟨v, w'', hr, _⟩ := h default []
          exact ⟨_, _, hr⟩
      | halt x w' => cases x <;> simp only [Oper.upon] at h; exact (h : False).elim
    · exact (NP.noOut h).elim
  · exact ⟨_, _, h⟩
theorem wpOp_exists {i : Nat} {o : Oper} (hi : ops[i]? = some o) {K : Act → World → Prop} {a : Act} {w : World} (h : wpOp P ops (NP) i K a w) :
    ∃ a' w', K a' w' ∧ Form o a a' := by
  obtain ⟨a', w', h1, h2⟩ := wpOp_some hi (wpOp_form hi h)
  exact ⟨a', w', h2, h1⟩


/-- the operations of a list, one after the other; S behind each of those that mv names; N in the end -/
def wpF (P : Program) (ops : Array Oper) (S : World → Prop) (mv : Nat → Bool) (N : Act → World → Prop) : List Nat → Act → World → Prop
  | [] => N
  | i :: l => wpOp P ops NP i (fun a' w' => (mv i = true → S w') ∧ wpF P ops S mv N l a' w')
variable {S : World → Prop} {mv : Nat → Bool} {N : Act → World → Prop}
theorem wpF_exists : ∀ (l : List Nat) (a : Act) (w : World), wpF P ops S mv N l a w →
    ∃ a' w', N a' w' ∧ ∀ t, (∀ i ∈ l, ∀ o, ops[i]? = some o → o.dst ≠ some t) → a'.tmps.getD t undef = a.tmps.getD t undef
  | [], a, w, h => ⟨a, w, h, fun _ _ => rfl⟩
  | i :: l, a, w, h => by
    unfold wpF at h
    cases hi : ops[i]? with
    | none =>
      unfold wpOp at h; simp only [hi] at h
      obtain ⟨a', w', h', hs⟩ := wpF_exists l a w h.2
      exact ⟨a', w', h', fun t ht => hs t fun k hk => ht k (by simp [hk])⟩
    | some o =>
      obtain ⟨a1, w1, h1, hs1⟩ := wpOp_exists hi h
      obtain ⟨a', w', h', hs⟩ := wpF_exists l a1 w1 h1.2
      exact ⟨a', w', h', fun t ht => (hs t fun k hk => ht k (by simp [hk])).trans (hs1.slot t (ht i (by simp) o hi))⟩
/-- what an operation that hangs on its operands alone yields is the same wherever it is carried out -/
theorem yields_of {oi : Oper} {a : Act} {w : World} {K : Act → World → Prop} {i : Nat} (hi : ops[i]? = some oi) (hk : calmKind P oi = true) (hp : plainAt oi a.eval = true)
    (h : wpOp P ops (NP) i K a w) : ∃ v, Yields P ops oi v a ∧ K (a.put oi.dst v) w := by
  unfold wpOp at h
  simp only [hi] at h
  split at h
  · rename_i hw
    rcases h with h | ⟨_, h⟩
    · unfold Oper.wp at h
      have hc := calm_exec (P := P) hk hp
      cases hr : (execOp a.eval oi).run P w with
      | ok n w' =>
        obtain ⟨u, rfl, rfl, h'⟩ := hc w n w' hr
        rw [hr] at h
        exact ⟨u, .inl ⟨hw, h'⟩, h⟩
      | halt x w' => rw [hr] at h; cases x <;> simp only [Oper.upon] at h; exact (h : False).elim
    · exact (NP.noOut h).elim
  · rename_i hw
    exact ⟨undef, .inr ⟨by simpa using hw, rfl⟩, h⟩

theorem wpOp_put' {j : Nat} {oi oj : Oper} {v : Value} (hj : ops[j]? = some oj) (hap : oi.apart ops oj = true)
    (hsj : ∀ cs b, oj.op ≠ .select cs b) {K : Act → World → Prop} {a : Act} {w : World}
    (h : wpOp P ops (NP) j (fun a' w' => K (a'.put oi.dst v) w') a w) : wpOp P ops (NP) j K (a.put oi.dst v) w := by
  obtain ⟨h1, h2, h3⟩ := Oper.apart_spec hap
  unfold wpOp at *
  simp only [hj] at *
  rw [wanted_put oj a oi.dst v h1]
  split
  · rename_i hw
    simp only [hw, if_true] at h
    rcases h with h | ⟨_, hlets⟩
    case inr => exact (NP.noOut hlets).elim
    refine .inl ?_
    unfold Oper.wp at *
    rw [execOp_put oj hsj a oi.dst v h1]
    generalize (execOp a.eval oj).run P w = r at *
    cases r with
    | ok n w' =>
      cases n <;> simp only [Oper.upon] at h ⊢
      case value u => rw [Act.put_comm a v u h2]; exact h
      case skip => rw [Act.put_comm a v undef h2]; exact h
      case defer d =>
        rw [Act.put_defers, Act.put_comm _ v undef h2]
        exact h
      case enter f args =>
        refine Calls.mono h fun e w'' he => ?_
        cases e with
        | returned u => show K _ _; rw [Act.put_comm a v u h2]; exact he
        | panicked c => exact he
        | outgrown => exact he
      case row row args => exact Rows.mono h fun u w'' he => by rw [Act.put_comm a v u h2]; exact he
    | halt x w' =>
      cases x <;> simp only [Oper.upon] at h ⊢
      case panic u => exact h
  · rename_i hw
    simp only [hw] at h
    rw [Act.put_comm a v undef h2]
    exact h

theorem apart_comm {x y : Oper} (h : x.apart ops y = true) : y.apart ops x = true := by
  obtain ⟨h1, h2, h3⟩ := Oper.apart_spec h
  unfold Oper.apart
  simp only [Bool.and_eq_true]
  refine ⟨?_, ?_⟩
  · cases hy : y.dst with
    | none => rfl
    | some d =>
      simp only [Bool.and_eq_true, Bool.not_eq_true', bne_iff_ne, ne_eq, List.contains_eq_mem, decide_eq_false_iff_not]
      exact ⟨h3 d hy, fun e => h2 d e hy⟩
  · cases hx : x.dst with
    | none => rfl
    | some d =>
      simp only [Bool.not_eq_true', List.contains_eq_mem, decide_eq_false_iff_not]
      exact h1 d hx

/-- two loads -/
theorem ro_yields {oi : Oper} {a : Act} {w : World} {K : Act → World → Prop} {i : Nat} (hi : ops[i]? = some oi) (hk : roKind P oi = true)
    (h : wpOp P ops (NP) i K a w) : ∃ v, ((Region.wanted oi (yielded ops a.tmps) = true ∧ (execOp a.eval oi).run P w = .ok (.value v) w) ∨ (Region.wanted oi (yielded ops a.tmps) = false ∧ v = undef)) ∧ K (a.put oi.dst v) w := by
  unfold wpOp at h
  simp only [hi] at h
  split at h
  · rename_i hw
    rcases h with h | ⟨_, h⟩
    · unfold Oper.wp at h
      cases hr : (execOp a.eval oi).run P w with
      | ok n w' =>
        obtain ⟨u, rfl, rfl⟩ := ro_exec hk w n w' hr
        rw [hr] at h
        exact ⟨u, .inl ⟨hw, rfl⟩, h⟩
      | halt x w' => rw [hr] at h; cases x <;> simp only [Oper.upon] at h; exact (h : False).elim
    · exact (NP.noOut h).elim
  · rename_i hw
    exact ⟨undef, .inr ⟨by simpa using hw, rfl⟩, h⟩
theorem of_ro_yields {oi : Oper} {a : Act} {w : World} {K : Act → World → Prop} {i : Nat} (hi : ops[i]? = some oi) {v : Value}
    (hy : (Region.wanted oi (yielded ops a.tmps) = true ∧ (execOp a.eval oi).run P w = .ok (.value v) w) ∨ (Region.wanted oi (yielded ops a.tmps) = false ∧ v = undef))
    (h : K (a.put oi.dst v) w) : wpOp P ops (NP) i K a w := by
  unfold wpOp
  simp only [hi]
  rcases hy with ⟨hw, hv⟩ | ⟨hw, rfl⟩
  · simp only [hw, if_true, Oper.wp, hv, Oper.upon]; exact .inl h
  · simp only [hw, Bool.false_eq_true, if_false]; exact h

theorem plainAt_congr {o : Oper} {ρ ρ' : Operand → Value} (h : ∀ x ∈ o.op.operands, ρ x = ρ' x) : plainAt o ρ = plainAt o ρ' := by
  obtain ⟨dst, op, type, pos, after, guard⟩ := o
  cases op <;> simp only [plainAt]
  case binOp => simp only [Op.operands] at h; rw [h _ (by simp), h _ (by simp)]
  case convert => simp only [Op.operands] at h; rw [h _ (by simp)]
  case nilCheck => simp only [Op.operands] at h; rw [h _ (by simp)]
  case call c =>
    obtain ⟨callee, args, ts⟩ := c
    have hargs : ∀ f : Value → Bool, (args.toList.all fun x => f (ρ x)) = args.toList.all fun x => f (ρ' x) := fun f => by
      have : ∀ x ∈ args.toList, f (ρ x) = f (ρ' x) := fun x hx => by rw [h x (by simp at hx; simp [Op.operands, Call.operands, hx])]
      generalize args.toList = l at this
      induction l with
      | nil => rfl
      | cons y l ih => simp only [List.all_cons]; rw [this y (by simp), ih fun x hx => this x (by simp [hx])]
    cases callee <;> try rfl
    rename_i b
    cases b <;> first | rfl | exact hargs _
theorem floatAt_slots {blocks : List Nat} {o : Oper} {a a' : Act} (h : ∀ t ∈ o.looksAt ops, a'.tmps.getD t undef = a.tmps.getD t undef) (hf : FloatAt blocks o a'.eval) : FloatAt blocks o a.eval := by
  unfold FloatAt at *
  split <;> simp only [*] at hf ⊢
  · rename_i t x hx
    have : a'.eval x = a.eval x := by
      cases x with
      | tmp t => exact h t (List.mem_append_left _ (List.mem_filterMap.2 ⟨.tmp t, by simp [hx, Op.operands], rfl⟩))
      | _ => rfl
    rw [← this]; exact hf
  · rename_i s d x hx
    have : a'.eval x = a.eval x := by
      cases x with
      | tmp t => exact h t (List.mem_append_left _ (List.mem_filterMap.2 ⟨.tmp t, by simp [hx, Op.operands], rfl⟩))
      | _ => rfl
    rw [← this]; exact hf
theorem plainAt_slots {o : Oper} {a a' : Act} (h : ∀ t ∈ o.looksAt ops, a'.tmps.getD t undef = a.tmps.getD t undef) : plainAt o a'.eval = plainAt o a.eval :=
  plainAt_congr fun x hx => by
    cases x with
    | tmp t => exact h t (List.mem_append_left _ (List.mem_filterMap.2 ⟨.tmp t, by simpa using hx, rfl⟩))
    | _ => rfl
theorem plainAt_idle {o : Oper} (h : asksPlain o = false) (ρ : Operand → Value) : plainAt o ρ = true := by
  obtain ⟨dst, op, type, pos, after, guard⟩ := o
  cases op <;> simp only [asksPlain, Bool.true_eq_false] at h <;> simp only [plainAt]
  case call c =>
    obtain ⟨callee, args, ts⟩ := c
    cases callee <;> try rfl
    rename_i b
    cases b <;> first | rfl | exact Bool.noConfusion (show true = false from h)



/-- j before i in the text, and i does not wait for j: they can be told apart by nothing (fl: loads from blocks that no operation named by mv changes) -/
def pairOK (P : Program) (fl : List Nat) (mv : Nat → Bool) (j i : Nat) (oj oi : Oper) (ops : Array Oper) : Bool :=
  oj.apart ops oi && (calmKind P oi || calmKind P oj || (roKind P oi && roKind P oj) || (roKind P oi && fl.contains i && mv j) || (roKind P oj && fl.contains j && mv i))

/-- whoever is carried out leaves S as it is, as long as a load that needs it is still to come -/
theorem keepS {i : Nat} {o : Oper} {B B' : Prop} (hi : ops[i]? = some o) (hmv : mv i = true ∨ calmKind P o = true ∨ roKind P o = true ∨ ¬ B') (hB : B' → B) {a : Act} {w : World} (hp : plainAt o a.eval = true) (hS : B → S w) {K : Act → World → Prop}
    (h : wpOp P ops NP i (fun a' w' => (mv i = true → S w') ∧ K a' w') a w) : wpOp P ops NP i (fun a' w' => (B' → S w') ∧ (mv i = true → S w') ∧ K a' w') a w := by
  rcases hmv with hm | hm | hm | hm
  · exact wpOp_mono (fun a' w' h' => ⟨fun _ => h'.1 hm, h'⟩) h
  · obtain ⟨v, hy, h⟩ := yields_of hi hm hp h
    exact hy.wpOp hi ⟨fun b => hS (hB b), h⟩
  · obtain ⟨v, hy, h⟩ := ro_yields hi hm h
    exact of_ro_yields hi hy ⟨fun b => hS (hB b), h⟩
  · exact wpOp_mono (fun a' w' h' => ⟨fun b => absurd b hm, h'⟩) h

/-- a load from one of the blocks yields the same wherever it is carried out -/
theorem float_yields {blocks : List Nat} {w0 : World} {oi : Oper} {a : Act} {w : World} {K : Act → World → Prop} {i : Nat} (hi : ops[i]? = some oi) (hk : roKind P oi = true) (hf : FloatAt blocks oi a.eval) (hS : SameB blocks w0 w)
    (h : wpOp P ops NP i K a w) : ∃ v, YieldsIf P ops (SameB blocks w0) oi v a ∧ K (a.put oi.dst v) w := by
  unfold wpOp at h
  simp only [hi] at h
  split at h
  · rename_i hw
    rcases h with h | ⟨_, h⟩
    · unfold Oper.wp at h
      cases hr : (execOp a.eval oi).run P w with
      | ok n w' =>
        obtain ⟨u, rfl, rfl, h'⟩ := float_exec hk hf hS hr
        rw [hr] at h
        exact ⟨u, .inl ⟨hw, h'⟩, h⟩
      | halt x w' => rw [hr] at h; cases x <;> simp only [Oper.upon] at h; exact (h : False).elim
    · exact (NP.noOut h).elim
  · rename_i hw
    exact ⟨undef, .inr ⟨by simpa using hw, rfl⟩, h⟩

/-- what is asked of the state in the end -/
def Chk (blocks : List Nat) (fl : List Nat) (ops : Array Oper) (a : Act) : Prop :=
  (∀ (k : Nat) (o : Oper), ops[k]? = some o → plainAt o a.eval = true) ∧ ∀ k ∈ fl, ∀ (o : Oper), ops[k]? = some o → FloatAt blocks o a.eval

theorem plain_of {blocks fl : List Nat} (hN : ∀ a w, N a w → Chk blocks fl ops a) {k : Nat} {o : Oper} (hk : ops[k]? = some o) {l : List Nat} {a : Act} {w : World}
    (hl : asksPlain o = true → ∀ k ∈ l, ∀ o', ops[k]? = some o' → ∀ t ∈ o.looksAt ops, o'.dst ≠ some t) (h : wpF P ops S mv N l a w) : plainAt o a.eval = true := by
  cases hq : asksPlain o with
  | false => exact plainAt_idle hq _
  | true =>
    obtain ⟨af, wf, hf, hslots⟩ := wpF_exists l a w h
    rw [← plainAt_slots (ops := ops) fun t ht => hslots t fun k hk o ho => hl hq k hk o ho t ht]
    exact (hN af wf hf).1 k o hk
theorem float_of {blocks fl : List Nat} (hN : ∀ a w, N a w → Chk blocks fl ops a) {k : Nat} {o : Oper} (hk : ops[k]? = some o) (hkf : k ∈ fl) {l : List Nat} {a : Act} {w : World}
    (hl : ∀ k ∈ l, ∀ o', ops[k]? = some o' → ∀ t ∈ o.looksAt ops, o'.dst ≠ some t) (h : wpF P ops S mv N l a w) : FloatAt blocks o a.eval := by
  obtain ⟨af, wf, hf, hslots⟩ := wpF_exists l a w h
  exact floatAt_slots (fun t ht => hslots t fun k hk o ho => hl k hk o ho t ht) ((hN af wf hf).2 k hkf o hk)

/-- an adjacent pair exchanged -/
theorem wpF_swap {blocks fl : List Nat} {w0 : World} (hmv : ∀ (k : Nat) (o : Oper), ops[k]? = some o → (calmKind P o || roKind P o) = true → mv k = false) (hN : ∀ a w, N a w → Chk blocks fl ops a) {i j : Nat} {oi oj : Oper} (hi : ops[i]? = some oi) (hj : ops[j]? = some oj) (hs : Region.noSelect ops = true) (hok : pairOK P fl mv j i oj oi ops = true)
    {l : List Nat} {a : Act} {w : World} (hS : i ∈ fl ∨ j ∈ fl → SameB blocks w0 w)
    (hli : asksPlain oi = true ∨ i ∈ fl → ∀ k ∈ j :: i :: l, ∀ o, ops[k]? = some o → ∀ t ∈ oi.looksAt ops, o.dst ≠ some t)
    (hlj : asksPlain oj = true ∨ j ∈ fl → ∀ k ∈ j :: i :: l, ∀ o, ops[k]? = some o → ∀ t ∈ oj.looksAt ops, o.dst ≠ some t)
    (h : wpF P ops (SameB blocks w0) mv N (j :: i :: l) a w) : wpF P ops (SameB blocks w0) mv N (i :: j :: l) a w := by
  have plI : plainAt oi a.eval = true := plain_of hN hi (fun hq => hli (.inl hq)) h
  have plJ : plainAt oj a.eval = true := plain_of hN hj (fun hq => hlj (.inl hq)) h
  have flI : i ∈ fl → FloatAt blocks oi a.eval := fun hq => float_of hN hi hq (hli (.inr hq)) h
  have flJ : j ∈ fl → FloatAt blocks oj a.eval := fun hq => float_of hN hj hq (hlj (.inr hq)) h
  simp only [pairOK, Bool.and_eq_true, Bool.or_eq_true, List.contains_eq_mem, decide_eq_true_eq] at hok
  obtain ⟨hap, hk⟩ := hok
  have hap' := apart_comm hap
  have hsi := Region.noSelect_spec hs i oi
  have hsj := Region.noSelect_spec hs j oj
  obtain ⟨g1, g2, g3⟩ := Oper.apart_spec hap
  unfold wpF at h ⊢
  unfold wpF at h ⊢
  rcases hk with (((hk | hk) | ⟨hki, hkj⟩) | ⟨⟨hki, hif⟩, hmj⟩) | ⟨⟨hkj, hjf⟩, hmi⟩
  · -- i hangs on its operands alone
    obtain ⟨a1, w1, ⟨_, h1⟩, hs1⟩ := wpOp_exists hj h
    have same1 := hs1.same hap (fun cs b => hsi cs b hi)
    have pl1 : plainAt oi a1.eval = true := by
      rw [plainAt_slots (ops := ops) fun t ht => hs1.slot t fun e => g1 t e ht]; exact plI
    obtain ⟨v, hy1, _⟩ := yields_of hi hk pl1 h1
    have hy : Yields P ops oi v a := hy1.of_same same1.1.symm same1.2.symm
    have hkey : ∀ a' w', Form oj a a' → ∀ K : Act → World → Prop, wpOp P ops NP i K a' w' → K (a'.put oi.dst v) w' := by
      intro a' w' hf' K h'
      have same' := hf'.same hap (fun cs b => hsi cs b hi)
      have pl' : plainAt oi a'.eval = true := by
        rw [plainAt_slots (ops := ops) fun t ht => hf'.slot t fun e => g1 t e ht]; exact plI
      obtain ⟨v', hy', hK⟩ := yields_of hi hk pl' h'
      have : v' = v := by
        have hy'' : Yields P ops oi v' a := hy'.of_same same'.1.symm same'.2.symm
        rcases hy with ⟨hw1, hv1⟩ | ⟨hw1, rfl⟩ <;> rcases hy'' with ⟨hw2, hv2⟩ | ⟨hw2, rfl⟩
        · have := (hv1 w).symm.trans (hv2 w); simp at this; exact this.symm
        · rw [hw1] at hw2; cases hw2
        · rw [hw1] at hw2; cases hw2
        · rfl
      rw [this] at hK
      exact hK
    have hmi : mv i = false := hmv i oi hi (by simp [hk])
    refine hy.wpOp hi ⟨fun hm => (by rw [hmi] at hm; cases hm), ?_⟩
    refine wpOp_put' hj hap' (fun cs b => hsj cs b hj) ?_
    refine wpOp_mono (fun a' w' h' => ?_) (wpOp_form hj h)
    exact ⟨h'.2.1, (hkey a' w' h'.1 _ h'.2.2).2⟩
  · -- j hangs on its operands alone
    obtain ⟨v, hy, h⟩ := yields_of hj hk plJ h
    have := wpOp_put (Q := NP) hi hap (fun cs b => hsj cs b hj) (fun cs b => hsi cs b hi) (fun c a w h => h) hy h.2
    have hmj : mv j = false := hmv j oj hj (by simp [hk])
    exact wpOp_mono (fun a' w' h' => ⟨h'.2.1, h'.1.wpOp hj ⟨fun hm => (by rw [hmj] at hm; cases hm), h'.2.2⟩⟩) this
  · obtain ⟨vj, hyj, h⟩ := ro_yields hj hkj h
    obtain ⟨_, h⟩ := h
    obtain ⟨vi, hyi, h⟩ := ro_yields hi hki h
    rw [execOp_put oi (fun cs b => hsi cs b hi) a oj.dst vj g1, wanted_put oi a oj.dst vj g1] at hyi
    have hmi : mv i = false := hmv i oi hi (by simp [hki])
    have hmj : mv j = false := hmv j oj hj (by simp [hkj])
    refine of_ro_yields hi hyi ⟨fun hm => (by rw [hmi] at hm; cases hm), ?_⟩
    refine of_ro_yields hj (v := vj) ?_ ⟨fun hm => (by rw [hmj] at hm; cases hm), ?_⟩
    · rw [execOp_put oj (fun cs b => hsj cs b hj) a oi.dst vi g3, wanted_put oj a oi.dst vi g3]; exact hyj
    · rw [← Act.put_comm a vj vi g2]; exact h.2
  · -- i is a load that no operation of the region disturbs
    have hS := hS (.inl hif)
    obtain ⟨a1, w1, ⟨hS1, h1⟩, hs1⟩ := wpOp_exists hj h
    have hS1 := hS1 hmj
    have fl' : ∀ a', Form oj a a' → FloatAt blocks oi a'.eval := fun a' hf' =>
      floatAt_slots (ops := ops) (fun t ht => (hf'.slot t fun e => g1 t e ht).symm) (flI hif)
    have same1 := hs1.same hap (fun cs b => hsi cs b hi)
    obtain ⟨v, hy1, _⟩ := float_yields hi hki (fl' a1 hs1) hS1 h1
    have hy : YieldsIf P ops (SameB blocks w0) oi v a := hy1.of_same same1.1.symm same1.2.symm
    refine hy.wpOp hi hS ⟨fun _ => hS, ?_⟩
    refine wpOp_put' hj hap' (fun cs b => hsj cs b hj) ?_
    refine wpOp_mono (fun a' w' h' => ?_) (wpOp_form hj h)
    refine ⟨h'.2.1, ?_⟩
    have hS' := h'.2.1 hmj
    have same' := h'.1.same hap (fun cs b => hsi cs b hi)
    obtain ⟨v', hy', hK⟩ := float_yields hi hki (fl' a' h'.1) hS' h'.2.2
    have : v' = v := by
      have hy'' : YieldsIf P ops (SameB blocks w0) oi v' a := hy'.of_same same'.1.symm same'.2.symm
      rcases hy with ⟨hw1, hv1⟩ | ⟨hw1, rfl⟩ <;> rcases hy'' with ⟨hw2, hv2⟩ | ⟨hw2, rfl⟩
      · have := (hv1 w hS).symm.trans (hv2 w hS); simp at this; exact this.symm
      · rw [hw1] at hw2; cases hw2
      · rw [hw1] at hw2; cases hw2
      · rfl
    rw [this] at hK
    exact hK.2
  · -- j is one
    have hS := hS (.inr hjf)
    obtain ⟨v, hy, h⟩ := float_yields hj hkj (flJ hjf) hS h
    have := wpOp_putIf (Q := NP) (S := SameB blocks w0) hi hap (fun cs b => hsj cs b hj) (fun cs b => hsi cs b hi) (fun c a w h => h) hy h.2
    exact wpOp_mono (fun a' w' h' => ⟨h'.2.1, h'.1.wpOp hj (h'.2.1 hmi) ⟨fun _ => h'.2.1 hmi, h'.2.2⟩⟩) this

/-! ### The text's order -/
/-- op i waits (through edges) for op j, by the masks m -/
def waits (m : Array Nat) (i j : Nat) : Bool := (m.getD i 0).testBit j
/-- the masks are right: whoever waits waits through an edge -/
def masksOK (ops : Array Oper) (m : Array Nat) : Bool :=
  (List.range ops.size).all fun i => match ops[i]? with
    | none => true
    | some o => decide (m.getD i 0 < 2 ^ i) && (o.after.all fun e => !Region.binds .any e || decide (e.on < i)) && (List.range i).all fun j => !waits m i j || o.after.any fun e => Region.binds .any e && (e.on == j || waits m e.on j)
def mvOf (P : Program) (tl : List Nat) (ops : Array Oper) (k : Nat) : Bool := !tl.contains k && match ops[k]? with
  | some o => !(calmKind P o || roKind P o)
  | none => false
/-- nobody writes what an operation that asks for plain operands looks at, but whom it waits for -/
def textOK (P : Program) (fl tl : List Nat) (ops : Array Oper) (m : Array Nat) : Bool :=
  (Region.noSelect ops && tl.all fun k => fl.all fun f => waits m k f) && masksOK ops m &&
  (List.range ops.size).all fun i => match ops[i]? with
    | none => true
    | some oi =>
      ((List.range i).all fun j => waits m i j || match ops[j]? with | some oj => pairOK P fl (mvOf P tl ops) j i oj oi ops | none => true) &&
      (!(asksPlain oi || fl.contains i) || (List.range ops.size).all fun k => waits m i k || match ops[k]? with
        | some ok => match ok.dst with | some d => !(oi.looksAt ops).contains d | none => true
        | none => true)
section
variable {m : Array Nat} {fl tl : List Nat}
theorem textOK_parts (h : textOK P fl tl ops m = true) : (Region.noSelect ops = true ∧ ∀ k ∈ tl, ∀ f ∈ fl, waits m k f = true) ∧ masksOK ops m = true ∧ ∀ (i : Nat) (oi : Oper), ops[i]? = some oi →
    (∀ (j : Nat) (oj : Oper), j < i → ops[j]? = some oj → waits m i j = false → pairOK P fl (mvOf P tl ops) j i oj oi ops = true) ∧
    (asksPlain oi = true ∨ i ∈ fl → ∀ (k : Nat) (ok : Oper), ops[k]? = some ok → waits m i k = false → ∀ t ∈ oi.looksAt ops, ok.dst ≠ some t) := by
  unfold textOK at h
  simp only [Bool.and_eq_true] at h
  obtain ⟨⟨h1, h2⟩, h3⟩ := h
  refine ⟨⟨h1.1, fun k hk f hf => List.all_eq_true.1 (List.all_eq_true.1 h1.2 k hk) f hf⟩, h2, fun i oi hi => ?_⟩
  have hlt : i < ops.size := (Array.getElem?_eq_some_iff.1 hi).1
  have h4 := List.all_eq_true.1 h3 i (List.mem_range.2 hlt)
  simp only [hi, Bool.and_eq_true] at h4
  refine ⟨fun j oj hj hoj hw => ?_, fun ha k ok hk hw t ht he => ?_⟩
  · have h5 := List.all_eq_true.1 h4.1 j (List.mem_range.2 hj)
    simpa [hw, hoj] using h5
  · have h5 := h4.2
    have ha' : (asksPlain oi || fl.contains i) = true := by simpa using ha
    simp only [ha', Bool.not_true, Bool.false_or] at h5
    have h6 := List.all_eq_true.1 h5 k (List.mem_range.2 (Array.getElem?_eq_some_iff.1 hk).1)
    simp only [hw, hk, Bool.false_or, he, Bool.not_eq_true', List.contains_eq_mem, decide_eq_false_iff_not] at h6
    exact h6 ht
theorem masksOK_parts (h : masksOK ops m = true) (i : Nat) (o : Oper) (hi : ops[i]? = some o) :
    (∀ j, waits m i j = true → j < i) ∧ (∀ e ∈ o.after, Region.binds .any e = true → e.on < i) ∧
    (∀ j, waits m i j = true → ∃ e ∈ o.after, Region.binds .any e = true ∧ (e.on = j ∨ waits m e.on j = true)) := by
  unfold masksOK at h
  have hlt : i < ops.size := (Array.getElem?_eq_some_iff.1 hi).1
  have h4 := List.all_eq_true.1 h i (List.mem_range.2 hlt)
  simp only [hi, Bool.and_eq_true, decide_eq_true_eq] at h4
  obtain ⟨⟨h1, h2⟩, h3⟩ := h4
  have hw : ∀ j, waits m i j = true → j < i := fun j hj => by
    rcases Nat.lt_or_ge j i with h' | h'
    · exact h'
    · unfold waits at hj
      rw [Nat.testBit_lt_two_pow (Nat.lt_of_lt_of_le h1 (Nat.pow_le_pow_right (by omega) h'))] at hj
      cases hj
  refine ⟨hw, fun e he hb => ?_, fun j hj => ?_⟩
  · have := Array.all_eq_true_iff_forall_mem.1 h2 e he
    simpa [hb] using this
  · have h5 := List.all_eq_true.1 h3 j (List.mem_range.2 (hw j hj))
    simp only [hj, Bool.not_true, Bool.false_or] at h5
    obtain ⟨e, he, hb⟩ := Array.any_eq_true'.1 h5
    simp only [Bool.and_eq_true, Bool.or_eq_true, beq_iff_eq] at hb
    exact ⟨e, he, hb.1, hb.2⟩


theorem bubble {blocks : List Nat} {w0 : World} (hN : ∀ a w, N a w → Chk blocks fl ops a) (ht : textOK P fl tl ops m = true) {i : Nat} {oi : Oper} (hi : ops[i]? = some oi) : ∀ (l1 l2 : List Nat) (a : Act) (w : World),
    (l1 ++ i :: l2).Pairwise (· < ·) → (∀ k ∈ l1 ++ i :: l2, waits m i k = false ∧ k < ops.size) → ((∃ f ∈ fl, f ∈ l1 ++ i :: l2) → SameB blocks w0 w) → wpF P ops (SameB blocks w0) (mvOf P tl ops) N (l1 ++ i :: l2) a w → wpF P ops (SameB blocks w0) (mvOf P tl ops) N (i :: (l1 ++ l2)) a w
  | [], l2, a, w, _, _, _, h => h
  | j :: l1, l2, a, w, hp, hw, hS, h => by
    obtain ⟨⟨hs, htl⟩, hm, hparts⟩ := textOK_parts ht
    have hjn : j < ops.size := (hw j (by simp)).2
    have hj : ops[j]? = some ops[j] := Array.getElem?_eq_getElem hjn
    have hp' := List.pairwise_cons.1 (show (j :: (l1 ++ i :: l2)).Pairwise (· < ·) from hp)
    have hji : j < i := hp'.1 i (by simp)
    have hmv : ∀ (k : Nat) (o : Oper), ops[k]? = some o → (calmKind P o || roKind P o) = true → mvOf P tl ops k = false := fun k o hk ho => by simp [mvOf, hk, ho]
    have hcls : mvOf P tl ops j = true ∨ calmKind P ops[j] = true ∨ roKind P ops[j] = true ∨ ¬ ∃ f ∈ fl, f ∈ l1 ++ i :: l2 := by
      by_cases hc : calmKind P ops[j] = true
      · exact .inr (.inl hc)
      by_cases hr : roKind P ops[j] = true
      · exact .inr (.inr (.inl hr))
      by_cases hjt : j ∈ tl
      · refine .inr (.inr (.inr fun ⟨f, hf, hfl⟩ => ?_))
        have := (masksOK_parts hm j _ hj).1 f (htl j hjt f hf)
        have := hp'.1 f hfl
        omega
      · exact .inl (by simp [mvOf, hj, hjt, hc, hr])
    have hlj : asksPlain ops[j] = true ∨ j ∈ fl → ∀ k ∈ j :: (l1 ++ i :: l2), ∀ (o : Oper), ops[k]? = some o → ∀ t ∈ ops[j].looksAt ops, o.dst ≠ some t := by
      intro ha k hk o ho t ht'
      refine (hparts j _ hj).2 ha k o ho ?_ t ht'
      have hkj : j ≤ k := by
        rcases List.mem_cons.1 hk with rfl | hk
        · omega
        · have := hp'.1 k hk; omega
      cases hwk : waits m j k with
      | false => rfl
      | true => have := (masksOK_parts hm j _ hj).1 k hwk; omega
    have h1 : wpF P ops (SameB blocks w0) (mvOf P tl ops) N (j :: i :: (l1 ++ l2)) a w := by
      have h0 : wpF P ops (SameB blocks w0) (mvOf P tl ops) N (j :: (l1 ++ i :: l2)) a w := h
      have plJ : plainAt ops[j] a.eval = true := plain_of hN hj (fun hq => hlj (.inl hq)) h0
      unfold wpF at h0 ⊢
      exact wpOp_mono (fun a' w' h' => ⟨h'.2.1, bubble hN ht hi l1 l2 a' w' hp'.2 (fun k hk => hw k (by simp at hk ⊢; exact .inr hk)) h'.1 h'.2.2⟩) (keepS hj hcls (fun ⟨f, hf, hfl⟩ => ⟨f, hf, by simp at hfl ⊢; exact .inr hfl⟩) plJ hS h0)
    refine wpF_swap hmv hN hi hj hs ((hparts i oi hi).1 j _ hji hj (hw j (by simp)).1) (fun hor => hS (by rcases hor with h | h <;> exact ⟨_, h, by simp⟩)) ?_ ?_ h1
    · intro ha k hk o ho t ht'
      exact (hparts i oi hi).2 ha k o ho (hw k (by simp at hk ⊢; rcases hk with h | h | h | h <;> simp [h])).1 t ht'
    · intro ha k hk o ho t ht'
      exact hlj ha k (by simp at hk ⊢; rcases hk with h | h | h | h <;> simp [h]) o ho t ht'

/-- those that have not come up yet -/
def left (ops : Array Oper) (listed : Array Bool) : List Nat := (List.range ops.size).filter fun k => !listed.getD k true

theorem waits_listed (hm : masksOK ops m = true) {listed : Array Bool}
    (hc : ∀ k o, ops[k]? = some o → listed.getD k false = true → ∀ e ∈ o.after, Region.binds .any e = true → listed.getD e.on false = true) :
    ∀ (i : Nat) (oi : Oper), ops[i]? = some oi → (∀ e ∈ oi.after, Region.binds .any e = true → listed.getD e.on false = true) → ∀ k, waits m i k = true → listed.getD k false = true := by
  intro i
  induction i using Nat.strongRecOn with
  | _ i ih =>
    intro oi hi hd k hk
    obtain ⟨h1, h2, h3⟩ := masksOK_parts hm i oi hi
    obtain ⟨e, he, hb, hor⟩ := h3 k hk
    rcases hor with rfl | hor
    · exact hd e he hb
    · have hlt := h2 e he hb
      have hn : e.on < ops.size := Nat.lt_trans hlt (Array.getElem?_eq_some_iff.1 hi).1
      exact ih e.on hlt ops[e.on] (Array.getElem?_eq_getElem hn) (hc e.on _ (Array.getElem?_eq_getElem hn) (hd e he hb)) k hor


theorem wpAny_of_text {blocks : List Nat} {w0 : World} (hN : ∀ a w, N a w → Chk blocks fl ops a) (hNQ : ∀ a w, N a w → Q .normal a w) (ht : textOK P fl tl ops m = true) : ∀ (fuel : Nat) (listed : Array Bool) (a : Act) (w : World), listed.size = ops.size → (left ops listed).length ≤ fuel →
    (∀ k o, ops[k]? = some o → listed.getD k false = true → ∀ e ∈ o.after, Region.binds .any e = true → listed.getD e.on false = true) → ((∃ f ∈ fl, f ∈ left ops listed) → SameB blocks w0 w) →
    wpF P ops (SameB blocks w0) (mvOf P tl ops) N (left ops listed) a w → wpAny P .any ops Q fuel listed a w := by
  obtain ⟨⟨hs, htl⟩, hm, hparts⟩ := textOK_parts ht
  have hsorted : ∀ listed, (left ops listed).Pairwise (· < ·) := fun listed => (List.pairwise_lt_range).filter _
  have hmem : ∀ listed k, k ∈ left ops listed ↔ k < ops.size ∧ listed.getD k true = false := fun listed k => by simp [left]
  have hempty : ∀ listed : Array Bool, listed.size = ops.size → Region.ready .any ops listed = [] → left ops listed = [] := by
    intro listed hsz hr
    cases hl : left ops listed with
    | nil => rfl
    | cons k r =>
      exfalso
      have hk := (hmem listed k).1 (by rw [hl]; simp)
      have : k ∈ Region.ready .any ops listed := by
        refine mem_ready.2 ⟨hk.2, ops[k], Array.getElem?_eq_getElem hk.1, fun e he hb => ?_⟩
        have hlt := (masksOK_parts hm k _ (Array.getElem?_eq_getElem hk.1)).2.1 e he hb
        cases hd : listed.getD e.on false with
        | true => rfl
        | false =>
          exfalso
          have hn : e.on < listed.size := by omega
          have : e.on ∈ left ops listed := (hmem listed _).2 ⟨by omega, by simpa [hn] using hd⟩
          have hso := hsorted listed
          rw [hl] at this hso
          rcases List.mem_cons.1 this with h | h
          · omega
          · have := (List.pairwise_cons.1 hso).1 _ h; omega
      rw [hr] at this; cases this
  intro fuel
  induction fuel with
  | zero =>
    intro listed a w hsz hlen hc hS h
    have hl : left ops listed = [] := List.length_eq_zero_iff.1 (by omega)
    rw [hl] at h
    refine ⟨?_, hNQ _ _ h⟩
    cases hr : Region.ready .any ops listed with
    | nil => rfl
    | cons k r =>
      have := mem_ready.1 (show k ∈ Region.ready .any ops listed by rw [hr]; simp)
      obtain ⟨h0, o, ho, _⟩ := this
      have : k ∈ left ops listed := (hmem listed k).2 ⟨(Array.getElem?_eq_some_iff.1 ho).1, h0⟩
      rw [hl] at this; cases this
  | succ fuel ih =>
    intro listed a w hsz hlen hc hS h
    refine ⟨fun hr => ?_, fun i hir => ?_⟩
    · rw [hempty listed hsz hr] at h; exact hNQ _ _ h
    · obtain ⟨hun, oi, hi, hd⟩ := mem_ready.1 hir
      have hin : i < ops.size := (Array.getElem?_eq_some_iff.1 hi).1
      have himem : i ∈ left ops listed := (hmem listed i).2 ⟨hin, hun⟩
      obtain ⟨l1, l2, hl⟩ := List.append_of_mem himem
      have hso := hsorted listed
      have hnw : ∀ k ∈ l1 ++ i :: l2, waits m i k = false ∧ k < ops.size := fun k hk => by
        rw [← hl] at hk
        have hk' := (hmem listed k).1 hk
        refine ⟨?_, hk'.1⟩
        cases hw : waits m i k with
        | false => rfl
        | true =>
          have := waits_listed hm hc i oi hi hd k hw
          have hks : k < listed.size := by omega
          have h2 := hk'.2
          simp [hks] at this h2
          rw [this] at h2; cases h2
      have hb := bubble (w0 := w0) hN ht hi l1 l2 a w (hl ▸ hso) hnw (hl ▸ hS) (hl ▸ h)
      have hcls : mvOf P tl ops i = true ∨ calmKind P oi = true ∨ roKind P oi = true ∨ ¬ ∃ f ∈ fl, f ∈ l1 ++ l2 := by
        by_cases hc' : calmKind P oi = true
        · exact .inr (.inl hc')
        by_cases hr : roKind P oi = true
        · exact .inr (.inr (.inl hr))
        by_cases hjt : i ∈ tl
        · refine .inr (.inr (.inr fun ⟨f, hf, hfl⟩ => ?_))
          have h1 := htl i hjt f hf
          have h2 := (hnw f (by simp at hfl ⊢; rcases hfl with h | h <;> simp [h])).1
          rw [h1] at h2; cases h2
        · exact .inl (by simp [mvOf, hi, hjt, hc', hr])
      have plI : plainAt oi a.eval = true := plain_of hN hi (fun hq k hk o ho t ht' => (hparts i oi hi).2 (.inl hq) k o ho (hnw k (by simp at hk ⊢; rcases hk with h | h | h <;> simp [h])).1 t ht') hb
      unfold wpF at hb
      have hb := keepS (B := ∃ f ∈ fl, f ∈ left ops listed) hi hcls (fun ⟨f, hf, hfl⟩ => ⟨f, hf, by rw [hl]; simp at hfl ⊢; rcases hfl with h | h <;> simp [h]⟩) plI hS hb
      refine wpOp_chg (fun c a w h => (h : False).elim) (fun h => (NP.noOut h).elim) (wpOp_mono (fun a' w' h' => ih (listed.setIfInBounds i true) a' w' (by simpa using hsz) ?_ ?_ ?_ ?_) hb)
      all_goals
        have hleft : left ops (listed.setIfInBounds i true) = l1 ++ l2 := by
          have e1 : left ops (listed.setIfInBounds i true) = (left ops listed).filter (fun k => k != i) := by
            unfold left
            rw [List.filter_filter]
            apply List.filter_congr
            intro k hk
            by_cases hki : k = i
            · subst hki
              have : k < listed.size := by omega
              simp [this]
            · rw [getD_set_ne true (Ne.symm hki)]
              simp [hki]
          rw [e1, hl, List.filter_append, List.filter_cons]
          rw [hl] at hso
          have hp := List.pairwise_append.1 hso
          have f1 : l1.filter (fun k => k != i) = l1 := List.filter_eq_self.2 fun k hk => by have := hp.2.2 k hk i (by simp); simp; omega
          have f2 : l2.filter (fun k => k != i) = l2 := List.filter_eq_self.2 fun k hk => by have := (List.pairwise_cons.1 hp.2.1).1 k hk; simp; omega
          rw [f1, f2]; simp
      · rw [hleft]; rw [hl] at hlen; simp at hlen ⊢; omega
      · intro k o ho hk e he hb'
        by_cases hki : k = i
        · subst hki
          rw [ho] at hi; cases hi
          exact getD_set_true (hd e he hb')
        · rw [getD_set_ne false (Ne.symm hki)] at hk
          exact getD_set_true (hc k o ho hk e he hb')
      · rw [hleft]; exact h'.1
      · rw [hleft]; exact h'.2.2
end
end
end Go.Txt
