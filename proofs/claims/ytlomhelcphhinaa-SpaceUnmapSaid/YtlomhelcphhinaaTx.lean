/- A region that draws its order may be walked in the order of its text, where the operations that no edge orders cannot be told apart. -/
import Derived.Orders
import Derived.Tactics
import Derived.Laws.Sem
namespace Go.Txt
open Go

/-- yields one value whatever the world is, and leaves the world alone -/
def Calm {α : Type} (P : Program) (s : Sem α) : Prop := ∀ w a w1, s.run P w = .ok a w1 → w1 = w ∧ ∀ w', s.run P w' = .ok a w'
/-- leaves the world alone -/
def Ro {α : Type} (P : Program) (s : Sem α) : Prop := ∀ w a w1, s.run P w = .ok a w1 → w1 = w
/-- never comes to an end with a value -/
def Never {α : Type} (P : Program) (s : Sem α) : Prop := ∀ w a w1, s.run P w ≠ .ok a w1

variable {P : Program} {α β : Type}

theorem Calm.ro {s : Sem α} (h : Calm P s) : Ro P s := fun w a w1 e => (h w a w1 e).1
theorem Never.calm {s : Sem α} (h : Never P s) : Calm P s := fun w a w1 e => absurd e (h w a w1)
theorem calm_pure (a : α) : Calm P (pure a : Sem α) := fun w b w1 e => by
  simp [Sem.run, pure] at e; obtain ⟨rfl, rfl⟩ := e; exact ⟨rfl, fun _ => rfl⟩
theorem bind_ok {x : Sem α} {f : α → Sem β} {w w1 : World} {b : β} (e : (x >>= f).run P w = .ok b w1) : ∃ a w2, x.run P w = .ok a w2 ∧ (f a).run P w2 = .ok b w1 := by
  rw [Sem.run_bind] at e
  cases hx : x.run P w with
  | ok a w2 => rw [hx] at e; exact ⟨a, w2, rfl, e⟩
  | halt h w2 => rw [hx] at e; simp [Result.andThen] at e
theorem calm_bind {x : Sem α} {f : α → Sem β} (h : Calm P x) (k : ∀ a, Calm P (f a)) : Calm P (x >>= f) := fun w b w1 e => by
  obtain ⟨a, w2, e1, e2⟩ := bind_ok e
  obtain ⟨rfl, h'⟩ := h w a w2 e1
  obtain ⟨rfl, k'⟩ := k a _ b w1 e2
  exact ⟨rfl, fun w' => by rw [Sem.run_bind, h' w']; exact k' w'⟩
theorem ro_bind {x : Sem α} {f : α → Sem β} (h : Ro P x) (k : ∀ a, Ro P (f a)) : Ro P (x >>= f) := fun w b w1 e => by
  obtain ⟨a, w2, e1, e2⟩ := bind_ok e
  have := h w a w2 e1; subst this
  exact k a _ b w1 e2
theorem never_bind_l {x : Sem α} {f : α → Sem β} (h : Never P x) : Never P (x >>= f) := fun w b w1 e => by
  obtain ⟨a, w2, e1, _⟩ := bind_ok e
  exact h w a w2 e1
theorem never_bind_r {x : Sem α} {f : α → Sem β} (h : ∀ a, Never P (f a)) : Never P (x >>= f) := fun w b w1 e => by
  obtain ⟨a, w2, _, e2⟩ := bind_ok e
  exact h a w2 b w1 e2
theorem never_halt (h : Halt) : Never P (Sem.halt h : Sem α) := fun w a w1 e => by simp [Sem.run] at e
theorem never_stuck (y : String) : Never P (stuck y : Sem α) := never_halt _
theorem never_unsupported (y : Unsupported) : Never P (unsupported y : Sem α) := never_halt _
theorem never_goPanic (y : Value) : Never P (goPanic y : Sem α) := never_halt _
theorem calm_program : Calm P program := fun w a w1 e => by
  simp [program, Sem.run] at e; obtain ⟨rfl, rfl⟩ := e; exact ⟨rfl, fun _ => rfl⟩
theorem never_runtimePanic (y : RuntimeError) : Never P (runtimePanic y : Sem α) := by
  unfold runtimePanic
  refine never_bind_r fun p => ?_
  cases y <;> dsimp only
  all_goals first
    | exact never_goPanic _
    | exact never_bind_r fun _ => never_goPanic _
    | exact never_bind_r fun _ => never_bind_r fun _ => never_goPanic _
theorem never_boundsPanic (k : IntKind) (x y : Int) (c : BoundsCode) : Never P (boundsPanic k x y c : Sem α) := by
  unfold boundsPanic
  dsimp only
  split
  · exact never_bind_r fun _ => never_runtimePanic _
  · exact never_bind_r fun _ => never_runtimePanic _
theorem calm_ite {c : Prop} [Decidable c] {x y : Sem α} (hx : Calm P x) (hy : Calm P y) : Calm P (if c then x else y) := by split <;> assumption
theorem ro_ite {c : Prop} [Decidable c] {x y : Sem α} (hx : Ro P x) (hy : Ro P y) : Ro P (if c then x else y) := by split <;> assumption
theorem calm_typeInfo (t : TypeId) : Calm P (typeInfo t) := by
  unfold typeInfo
  refine calm_bind calm_program fun p => ?_
  split
  · exact calm_pure _
  · exact (never_stuck _).calm
theorem calm_underlying (t : TypeId) : Calm P (underlying t) := by
  unfold underlying
  refine calm_bind calm_program fun p => ?_
  split
  · exact calm_pure _
  · exact (never_stuck _).calm
theorem calm_sizeOf (t : TypeId) : Calm P (sizeOf t) := calm_bind (calm_typeInfo t) fun _ => calm_pure _
theorem calm_asIntOf (v : Value) : Calm P (asIntOf v) := by
  unfold asIntOf; split
  · exact calm_pure _
  · exact (never_unsupported _).calm
  · exact (never_stuck _).calm
theorem calm_asBool (v : Value) : Calm P (asBool v) := by
  unfold asBool; split
  · exact calm_pure _
  · exact (never_stuck _).calm
theorem calm_sureAddr (v : Value) : Calm P (Instr.sureAddr v) := by
  unfold Instr.sureAddr; split
  · exact calm_pure _
  · exact (never_stuck _).calm
theorem calm_isAgg (t : TypeId) : Calm P (isAgg t) := by
  unfold isAgg
  refine calm_bind (calm_underlying t) fun u => ?_
  split <;> exact calm_pure _
theorem ro_load (a : Addr) (m : Mode) : Ro P (load a m) := fun w v w1 e => by
  simp only [load, Sem.run] at e
  split at e
  · simp at e; exact e.2.symm
  · split at e
    · simp at e; exact e.2.symm
    · simp at e
theorem ro_loadCellsFrom (a : Addr) : ∀ (n i : Nat) (acc : Array Value), Ro P (loadCellsFrom a i n acc)
  | 0, _, _ => (calm_pure _).ro
  | n + 1, i, acc => by unfold loadCellsFrom; exact ro_bind (ro_load _ _) fun v => ro_loadCellsFrom a n (i + 1) (acc.push v)
theorem ro_loadVar (t : TypeId) (a : Addr) : Ro P (loadVar t a) := by
  unfold loadVar
  refine ro_bind (calm_isAgg t).ro fun b => ?_
  refine ro_ite ?_ (ro_load _ _)
  exact ro_bind (calm_sizeOf t).ro fun _ => ro_bind (ro_loadCellsFrom a _ 0 _) fun _ => (calm_pure _).ro
theorem ro_loadAt (t : TypeId) (v : Value) : Ro P (Instr.loadAt t v) := ro_bind (calm_sureAddr v).ro fun a => ro_loadVar t a


theorem calm_bind_of {R : α → Prop} {x : Sem α} {f : α → Sem β} (h : Calm P x) (hr : ∀ w a w1, x.run P w = .ok a w1 → R a) (k : ∀ a, R a → Calm P (f a)) : Calm P (x >>= f) := fun w b w1 e => by
  obtain ⟨a, w2, e1, e2⟩ := bind_ok e
  obtain ⟨rfl, h'⟩ := h w a w2 e1
  obtain ⟨rfl, k'⟩ := k a (hr _ _ _ e1) _ b w1 e2
  exact ⟨rfl, fun w' => by rw [Sem.run_bind, h' w']; exact k' w'⟩
theorem underlying_ok {t : TypeId} {d : TypeDesc} {w w1 : World} (e : (underlying t).run P w = .ok d w1) : P.underlying t = some d := by
  unfold underlying at e
  obtain ⟨p, w2, e1, e2⟩ := bind_ok e
  simp [program, Sem.run] at e1
  obtain ⟨rfl, rfl⟩ := e1
  split at e2
  · rename_i h; simp [Sem.run, pure] at e2; rw [h, e2.1]
  · exact absurd e2 (never_stuck _ _ _ _)
theorem sizeOf_ok {t : TypeId} {n : Nat} {w w1 : World} (e : (sizeOf t).run P w = .ok n w1) : ∃ i, P.info? t = some i ∧ i.size = n := by
  unfold sizeOf at e
  obtain ⟨i, w2, e1, e2⟩ := bind_ok e
  unfold typeInfo at e1
  obtain ⟨p, w3, e3, e4⟩ := bind_ok e1
  simp [program, Sem.run] at e3
  obtain ⟨rfl, rfl⟩ := e3
  simp [Sem.run, pure] at e2
  split at e4
  · rename_i h; simp [Sem.run, pure] at e4; exact ⟨_, h, by rw [e4.1]; exact e2.1⟩
  · exact absurd e4 (never_stuck _ _ _ _)

/-- the field is of at least one cell -/
def fieldOK (P : Program) (s : TypeId) (f : Nat) : Bool :=
  match P.underlying s with
  | some (.struct fs) => match fs[f]? with
    | some fl => (P.info? fl.type).any (·.size != 0)
    | none => true
  | _ => true

theorem calm_fieldAt (s : TypeId) (x : Value) (f : Nat) (h : fieldOK P s f = true) : Calm P (Instr.fieldAt s x f) := by
  unfold Instr.fieldAt
  refine calm_bind_of (R := fun d => P.underlying s = some d) (calm_underlying s) (fun _ _ _ e => underlying_ok e) fun d hd => ?_
  split
  · rename_i fields
    split
    · rename_i fl hfl
      refine calm_bind (calm_sureAddr x) fun a => ?_
      refine calm_bind ?_ fun _ => calm_pure _
      unfold fieldPlace
      refine calm_bind_of (R := fun n => n ≠ 0) (calm_sizeOf _) (fun w n w1 e => ?_) fun n hn => ?_
      · obtain ⟨i, hi, rfl⟩ := sizeOf_ok e
        simp [fieldOK, hd, hfl, hi] at h
        exact h
      · rw [if_neg hn]; exact calm_pure _
    · exact (never_stuck _).calm
  · exact (never_stuck _).calm

theorem calm_indexAt (t : TypeId) (x i : Value) : Calm P (Instr.indexAt t x i) := by
  unfold Instr.indexAt
  dsimp only
  repeat' (first | exact calm_pure _ | exact calm_sureAddr _ | exact calm_underlying _ | exact calm_sizeOf _ | exact calm_asIntOf _ | exact (never_stuck _).calm | exact (never_unsupported _).calm | exact (never_boundsPanic _ _ _ _).calm | exact calm_sliceBound _ _ _ | refine calm_bind ?_ fun _ => ?_ | refine calm_ite ?_ ?_ | split)

theorem calm_part (t : TypeId) (cs : Array Value) (o : Nat) : Calm P (part t cs o) := by
  unfold part
  refine calm_bind (calm_isAgg t) fun b => calm_ite ?_ ?_
  · exact calm_bind (calm_sizeOf t) fun _ => calm_pure _
  · split
    · exact calm_pure _
    · exact (never_stuck _).calm
theorem calm_asAgg (v : Value) : Calm P (asAgg v) := by
  unfold asAgg; split
  · exact calm_pure _
  · exact (never_stuck _).calm
theorem calm_asAddr (v : Value) : Calm P (asAddr v) := by
  unfold asAddr; split
  · exact calm_pure _
  · exact (never_runtimePanic _).calm
  · exact (never_stuck _).calm
theorem calm_field (t : TypeId) (x : Value) (f : Nat) : Calm P (Instr.field t x f) := by
  unfold Instr.field
  refine calm_bind (calm_underlying t) fun d => ?_
  split
  · split
    · exact calm_bind (calm_asAgg x) fun _ => calm_part _ _ _
    · exact (never_stuck _).calm
  · exact (never_stuck _).calm
theorem calm_index (t : TypeId) (x i : Value) : Calm P (Instr.index t x i) := by
  unfold Instr.index
  refine calm_bind (calm_asIntOf i) fun ki => ?_
  refine calm_bind (calm_underlying t) fun d => ?_
  split
  · exact calm_ite (calm_bind (calm_sizeOf _) fun _ => calm_part _ _ _) (never_boundsPanic _ _ _ _).calm
  · split
    · exact calm_pure _
    · exact (never_boundsPanic _ _ _ _).calm
  · exact (never_stuck _).calm
theorem calm_sliceBound (x : Value) (y : Nat) (c : BoundsCode) : Calm P (Instr.sliceBound x y c) := by
  unfold Instr.sliceBound
  exact calm_bind (calm_asIntOf x) fun _ => calm_ite (calm_pure _) (never_boundsPanic _ _ _ _).calm
theorem calm_sliceBounds (b : Bool) (l c : Nat) (lo hi mx : Option Value) : Calm P (Instr.sliceBounds b l c lo hi mx) := by
  unfold Instr.sliceBounds
  dsimp only
  repeat' (first | exact calm_pure _ | exact calm_sureAddr _ | exact calm_underlying _ | exact calm_sizeOf _ | exact calm_asIntOf _ | exact (never_stuck _).calm | exact (never_unsupported _).calm | exact (never_boundsPanic _ _ _ _).calm | exact calm_sliceBound _ _ _ | refine calm_bind ?_ fun _ => ?_ | refine calm_ite ?_ ?_ | split)
theorem calm_slice (t : TypeId) (x : Value) (lo hi mx : Option Value) : Calm P (Instr.slice t x lo hi mx) := by
  unfold Instr.slice
  refine calm_bind (calm_underlying t) fun d => ?_
  split
  · split
    · exact (never_bind_l (never_stuck _)).calm
    · exact calm_bind (calm_sliceBounds _ _ _ _ _ _) fun _ => calm_pure _
  · exact calm_bind (calm_sliceBounds _ _ _ _ _ _) fun _ => calm_bind (calm_sizeOf _) fun _ => calm_pure _
  · refine calm_bind (calm_asAddr _) fun a => calm_bind (calm_underlying _) fun d => ?_
    split
    · exact calm_bind (calm_sliceBounds _ _ _ _ _ _) fun _ => calm_bind (calm_sizeOf _) fun _ => calm_pure _
    · exact (never_stuck _).calm
  · exact (never_stuck _).calm
theorem calm_sliceAt (t : TypeId) (x : Value) (lo hi mx : Option Value) : Calm P (Instr.sliceAt t x lo hi mx) := by
  unfold Instr.sliceAt
  refine calm_bind (calm_underlying t) fun d => ?_
  split
  · exact calm_bind (calm_sureAddr _) fun _ => calm_bind (calm_sliceBounds _ _ _ _ _ _) fun _ => calm_bind (calm_sizeOf _) fun _ => calm_pure _
  · exact calm_slice _ _ _ _ _
theorem calm_extract (x : Value) (i : Nat) : Calm P (Instr.extract x i) := by
  unfold Instr.extract
  split
  · split
    · exact calm_pure _
    · exact (never_stuck _).calm
  · exact (never_stuck _).calm
theorem calm_unary (op : UnOp) (x : Value) : Calm P (Op.unary op x) := by
  unfold Op.unary Op.intArith Op.intBits
  split <;> first | exact calm_pure _ | exact (never_stuck _).calm | exact (never_unsupported _).calm

def plainV : Value → Bool
  | .int _ _ | .bool _ | .string _ | .tuple _ => true
  | _ => false
def plainI : Value → Bool
  | .int _ _ | .tuple _ => true
  | _ => false
def plainP : Value → Bool
  | .pointer _ | .tuple _ => true
  | _ => false
def plainC : Value → Bool
  | .int _ _ | .tuple _ | .slice _ _ _ => true
  | _ => false
def plainL : Value → Bool
  | .slice _ _ _ | .string _ | .tuple _ => true
  | _ => false

theorem calm_stringOp (op : BinOp) (x y : ByteArray) : Calm P (Op.stringOp op x y) := by
  unfold Op.stringOp
  dsimp only
  repeat' (first | exact calm_pure _ | exact (never_stuck _).calm | exact (never_unsupported _).calm | refine calm_ite ?_ ?_ | split)
/-- a plain value, or a struct or array of such -/
def plainW : Value → Bool
  | .agg cs => cs.toList.all plainV
  | v => plainV v
theorem plainV_W {v : Value} (h : plainV v = true) : plainW v = true := by cases v <;> simp [plainV] at h <;> rfl
theorem calm_forIn {σ : Type} (f : α → σ → Sem (ForInStep σ)) : ∀ (l : List α) (b : σ), (∀ a ∈ l, ∀ b, Calm P (f a b)) → Calm P (forIn l b f)
  | [], b, _ => by rw [List.forIn_nil]; exact calm_pure _
  | a :: l, b, h => by
    rw [List.forIn_cons]
    refine calm_bind (h a (by simp) b) fun r => ?_
    cases r with
    | done b => exact calm_pure _
    | yield b => exact calm_forIn f l b fun x hx => h x (by simp [hx])
theorem part_plain {t : TypeId} {cs : Array Value} {o : Nat} (hc : cs.toList.all plainV = true) {w w1 : World} {v : Value} (e : (part t cs o).run P w = .ok v w1) : plainW v = true := by
  have hc' : ∀ x ∈ cs.toList, plainV x = true := List.all_eq_true.1 hc
  unfold part at e
  obtain ⟨b, w2, _, e⟩ := bind_ok e
  split at e
  · obtain ⟨n, w3, _, e⟩ := bind_ok e
    simp [Sem.run, pure] at e
    rw [← e.1]
    refine List.all_eq_true.2 fun x hx => hc' x ?_
    simp at hx
    exact List.mem_of_mem_drop (List.mem_of_mem_take hx)
  · split at e
    · rename_i v' hv
      simp [Sem.run, pure] at e
      rw [← e.1]
      exact plainV_W (hc' v' (by simpa using Array.mem_of_getElem? hv))
    · exact absurd e (never_stuck _ _ _ _)
theorem calm_rec2 {g : TypeId → Value → Value → Sem Bool} (ih : ∀ (t : TypeId) (x y : Value), plainW x = true → plainW y = true → Calm P (g t x y)) {xs ys : Array Value}
    (hx : xs.toList.all plainV = true) (hy : ys.toList.all plainV = true) {σ : Type} (e : TypeId) (o : Nat) (f : Bool → Sem σ) (hf : ∀ b, Calm P (f b)) :
    Calm P (do f (← g e (← part e xs o) (← part e ys o))) := by
  refine calm_bind_of (R := fun v => plainW v = true) (calm_part _ _ _) (fun _ _ _ e => part_plain hx e) fun v hv => ?_
  refine calm_bind_of (R := fun v => plainW v = true) (calm_part _ _ _) (fun _ _ _ e => part_plain hy e) fun v' hv' => ?_
  exact calm_bind (ih _ _ _ hv hv') fun b => hf b
theorem calm_equalIn_agg (d : Nat) (ih : ∀ (t : TypeId) (x y : Value), plainW x = true → plainW y = true → Calm P (Op.equalIn d t x y)) (t : TypeId) (xs ys : Array Value)
    (hx : xs.toList.all plainV = true) (hy : ys.toList.all plainV = true) : Calm P (Op.equalIn (d + 1) t (.agg xs) (.agg ys)) := by
  unfold Op.equalIn
  refine calm_bind (calm_underlying t) fun u => ?_
  cases u <;> dsimp only <;> first | exact (never_stuck _).calm | skip
  case array n e =>
    refine calm_bind (calm_sizeOf _) fun k => ?_
    rw [Std.Legacy.Range.forIn_eq_forIn_range']
    refine calm_bind (calm_forIn _ _ _ fun a _ b => ?_) fun r => ?_
    · exact calm_rec2 ih hx hy _ _ _ fun b => calm_ite (calm_pure _) (calm_pure _)
    · (try dsimp only); split <;> exact calm_pure _
  case struct fs =>
    refine calm_bind calm_program fun p => ?_
    split
    · exact (never_bind_l (never_unsupported _)).calm
    · rw [← Array.forIn_toList]
      refine calm_bind (calm_forIn _ _ _ fun a _ b => ?_) fun r => ?_
      · refine calm_ite ?_ (calm_pure _)
        exact calm_rec2 ih hx hy _ _ _ fun b => calm_ite (calm_pure _) (calm_pure _)
      · (try dsimp only); split <;> exact calm_pure _
theorem calm_equalIn : ∀ (d : Nat) (t : TypeId) (x y : Value), plainW x = true → plainW y = true → Calm P (Op.equalIn d t x y) := by
  intro d
  induction d with
  | zero => intro t x y _ _; unfold Op.equalIn; exact (never_unsupported _).calm
  | succ d ih =>
    intro t x y hx hy
    by_cases hxa : ∃ xs, x = .agg xs
    · obtain ⟨xs, rfl⟩ := hxa
      by_cases hya : ∃ ys, y = .agg ys
      · obtain ⟨ys, rfl⟩ := hya
        exact calm_equalIn_agg d ih t xs ys hx hy
      · cases y <;> simp [plainW, plainV] at hy hya <;> unfold Op.equalIn <;> refine calm_bind (calm_underlying t) fun u => ?_ <;> cases u <;> exact (never_stuck _).calm
    · unfold Op.equalIn
      refine calm_bind (calm_underlying t) fun u => ?_
      cases x <;> simp [plainW, plainV] at hx hxa <;> cases y <;> simp [plainW, plainV] at hy <;> cases u <;> dsimp only <;>
        first
        | exact calm_pure _
        | exact (never_stuck _).calm
        | exact (never_unsupported _).calm
        | exact calm_ite (calm_pure _) (never_stuck _).calm
theorem calm_eqGuardIn : ∀ (d : Nat) (t : TypeId) (x y : Value), plainW x = true → plainW y = true → Calm P (Op.eqGuardIn d t x y) := by
  intro d
  induction d with
  | zero => intro t x y _ _; unfold Op.eqGuardIn; exact (never_unsupported _).calm
  | succ d ih =>
    intro t x y hx hy
    unfold Op.eqGuardIn
    refine calm_bind (calm_underlying t) fun u => ?_
    split
    · exact calm_pure _
    · rename_i fs xs ys
      have hx' : xs.toList.all plainV = true := hx
      have hy' : ys.toList.all plainV = true := hy
      rw [← Array.forIn_toList]
      refine calm_bind (calm_forIn _ _ _ fun a _ b => ?_) fun r => ?_
      · refine calm_ite ?_ (calm_pure _)
        exact calm_rec2 ih hx' hy' _ _ _ fun b => calm_ite (calm_pure _) (calm_pure _)
      · (try dsimp only); split <;> exact calm_pure _
    · rename_i n e xs ys
      have hx' : xs.toList.all plainV = true := hx
      have hy' : ys.toList.all plainV = true := hy
      refine calm_bind (calm_sizeOf _) fun k => ?_
      rw [Std.Legacy.Range.forIn_eq_forIn_range']
      refine calm_bind (calm_forIn _ _ _ fun a _ b => ?_) fun r => ?_
      · exact calm_rec2 ih hx' hy' _ _ _ fun b => calm_ite (calm_pure _) (calm_pure _)
      · (try dsimp only); split <;> exact calm_pure _
    · exact calm_pure _

theorem calm_equal (t : TypeId) (x y : Value) (hx : plainW x = true) (hy : plainW y = true) : Calm P (Op.equal t x y) := calm_equalIn _ _ _ _ hx hy
theorem calm_binOp (op : BinOp) (t : TypeId) (x y : Value) (hx : plainW x = true) (hy : plainW y = true) : Calm P (binOp op t x y) := by
  have he := calm_equal (P := P) t x y hx hy
  cases x <;> simp [plainW, plainV] at hx <;> cases y <;> simp [plainW, plainV] at hy <;> cases op <;> simp only [binOp] <;>
    first
    | exact calm_stringOp _ _ _
    | exact calm_bind he fun _ => calm_pure _
    | exact (never_stuck _).calm
    | (repeat' (first | exact calm_pure _ | exact (never_stuck _).calm | exact (never_unsupported _).calm | exact (never_runtimePanic _).calm | refine calm_ite ?_ ?_ | split | unfold Op.shift | unfold Op.intArith | unfold Op.intDiv | unfold Op.intBits | unfold Op.intCmp | dsimp only))
theorem calm_eqGuard (op : BinOp) (t : TypeId) (o1 o2 : Operand) (x y : Value) (hx : plainW x = true) (hy : plainW y = true) : Calm P (eqGuard op t o1 o2 x y) := by
  have he := calm_eqGuardIn (P := P) Op.maxDepth t x y hx hy
  unfold eqGuard
  refine calm_ite (calm_pure _) ?_
  split
  · simp [plainW, plainV] at hx
  · refine calm_bind calm_program fun p => calm_bind calm_program fun q => ?_
    split
    · exact calm_pure _
    · refine calm_bind he fun b => ?_
      split
      · exact (never_unsupported _).calm
      · exact calm_pure _
  · exact calm_pure _
def intType (P : Program) (t : TypeId) : Bool :=
  match P.underlying t with
  | some (.int _) => true
  | _ => false
theorem calm_convert (src dst : TypeId) (x : Value) (hd : intType P dst = true) (hx : plainC x = true) : Calm P (convert src dst x) := by
  unfold convert
  refine calm_bind (calm_underlying _) fun d1 => ?_
  refine calm_bind_of (R := fun d => P.underlying dst = some d) (calm_underlying _) (fun _ _ _ e => underlying_ok e) fun d2 h2 => ?_
  unfold intType at hd
  rw [h2] at hd
  cases d2 <;> simp at hd
  cases x <;> simp [plainC] at hx <;> cases d1 <;> simp only [Conv.intToInt] <;>
    (repeat' (first | contradiction | exact calm_pure _ | exact (never_stuck _).calm | exact (never_unsupported _).calm | exact (never_runtimePanic _).calm | refine calm_bind (calm_underlying _) fun _ => ?_ | split))
theorem calm_len (ts : Array TypeId) (t : TypeId) (args : Array Value) (h : args.all plainL = true) : Calm P (Builtin.len_ ts t args) := by
  unfold Builtin.len_
  cases ht : ts[0]? with
  | none => exact (never_stuck _).calm
  | some t =>
    cases hx : args[0]? with
    | none => exact (never_stuck _).calm
    | some x =>
      have hx : plainL x = true := Array.all_eq_true_iff_forall_mem.1 h x (Array.mem_of_getElem? hx)
      dsimp only
      refine calm_bind (calm_underlying _) fun d => ?_
      cases x <;> simp [plainL] at hx <;> cases d <;> dsimp only <;>
        (repeat' (first | exact calm_pure _ | exact (never_stuck _).calm | exact (never_unsupported _).calm | refine calm_bind (calm_underlying _) fun _ => ?_ | split))
theorem calm_min2 (x y : Value) (hx : plainI x = true) (hy : plainI y = true) : Calm P (Builtin.min2 x y) := by
  cases x <;> simp [plainI] at hx <;> cases y <;> simp [plainI] at hy <;> unfold Builtin.min2 <;> first | exact calm_pure _ | exact (never_stuck _).calm
theorem min2_plain (x y : Value) (hx : plainI x = true) (hy : plainI y = true) (w : World) (v : Value) (w1 : World) (e : (Builtin.min2 x y).run P w = .ok v w1) : plainI v = true := by
  cases x <;> simp [plainI] at hx <;> cases y <;> simp [plainI] at hy <;> simp [Builtin.min2, Sem.run, pure, stuck] at e <;> (rw [← e.1]; rfl)
theorem calm_max2 (x y : Value) (hx : plainI x = true) (hy : plainI y = true) : Calm P (Builtin.max2 x y) := by
  cases x <;> simp [plainI] at hx <;> cases y <;> simp [plainI] at hy <;> unfold Builtin.max2 <;> first | exact calm_pure _ | exact (never_stuck _).calm
theorem max2_plain (x y : Value) (hx : plainI x = true) (hy : plainI y = true) (w : World) (v : Value) (w1 : World) (e : (Builtin.max2 x y).run P w = .ok v w1) : plainI v = true := by
  cases x <;> simp [plainI] at hx <;> cases y <;> simp [plainI] at hy <;> simp [Builtin.max2, Sem.run, pure, stuck] at e <;> (rw [← e.1]; rfl)
theorem calm_foldlM (f : Value → Value → Sem Value) (hf : ∀ x y, plainI x = true → plainI y = true → Calm P (f x y)) (hg : ∀ x y, plainI x = true → plainI y = true → ∀ w v w1, (f x y).run P w = .ok v w1 → plainI v = true) :
    ∀ (l : List Value) (x : Value), plainI x = true → (∀ y ∈ l, plainI y = true) → Calm P (l.foldlM f x)
  | [], x, _, _ => calm_pure _
  | y :: l, x, hx, hl => by
    rw [List.foldlM_cons]
    exact calm_bind_of (R := fun v => plainI v = true) (hf x y hx (hl y (by simp))) (fun w v w1 e => hg x y hx (hl y (by simp)) w v w1 e) fun v hv => calm_foldlM f hf hg l v hv (fun z hz => hl z (by simp [hz]))
theorem calm_min (ts : Array TypeId) (t : TypeId) (args : Array Value) (h : args.all plainI = true) : Calm P (Builtin.min_ ts t args) := by
  unfold Builtin.min_
  have h' : ∀ y ∈ args.toList, plainI y = true := fun y hy => Array.all_eq_true_iff_forall_mem.1 h y (by simpa using hy)
  split
  · exact (never_stuck _).calm
  · rename_i x r hx
    rw [hx] at h'
    exact calm_foldlM _ calm_min2 min2_plain r x (h' x (by simp)) fun y hy => h' y (by simp [hy])
theorem calm_max (ts : Array TypeId) (t : TypeId) (args : Array Value) (h : args.all plainI = true) : Calm P (Builtin.max_ ts t args) := by
  unfold Builtin.max_
  have h' : ∀ y ∈ args.toList, plainI y = true := fun y hy => Array.all_eq_true_iff_forall_mem.1 h y (by simpa using hy)
  split
  · exact (never_stuck _).calm
  · rename_i x r hx
    rw [hx] at h'
    exact calm_foldlM _ calm_max2 max2_plain r x (h' x (by simp)) fun y hy => h' y (by simp [hy])
theorem calm_build (t : TypeId) (parts : Array (Nat × Value)) : Calm P (Instr.build t parts) := by
  unfold Instr.build
  have hz : Calm P (zeroValue t) := by
    unfold zeroValue
    refine calm_bind (calm_typeInfo t) fun i => ?_
    split
    · exact calm_pure _
    · exact (never_unsupported _).calm
  have hm : ∀ fields : List Field, Calm P (fields.mapM fun f => do pure (f.offset, ← sizeOf f.type)) := by
    intro fields
    induction fields with
    | nil => exact calm_pure _
    | cons f l ih =>
      rw [List.mapM_cons]
      exact calm_bind (calm_bind (calm_sizeOf _) fun _ => calm_pure _) fun _ => calm_bind ih fun _ => calm_pure _
  refine calm_bind hz fun z => calm_bind (calm_underlying t) fun d => ?_
  split
  · rename_i fields
    rw [Array.mapM_eq_mapM_toList]
    refine calm_bind ?_ fun places => ?_
    · rw [map_eq_pure_bind]
      exact calm_bind (hm _) fun _ => calm_pure _
    · split
      · exact calm_pure _
      · exact (never_stuck _).calm
  · refine calm_bind (calm_sizeOf _) fun n => ?_
    split
    · exact calm_pure _
    · exact (never_stuck _).calm
  · exact (never_stuck _).calm
theorem calm_makeInterface (t : TypeId) (x : Value) : Calm P (Instr.makeInterface t x) := by
  unfold Instr.makeInterface
  refine calm_bind (calm_underlying _) fun d => ?_
  split
  · exact (never_stuck _).calm
  · exact calm_pure _

/-- operations whose value hangs on their operands alone (where 'plainAt' holds of them) -/
def calmKind (P : Program) (o : Oper) : Bool :=
  match o.op with
  | .move _ | .assign _ | .pick .. | .extract .. | .unOp .. | .indexAddr .. | .slice .. | .field .. | .index .. | .makeInterface .. | .makeFunc .. | .binOp .. | .nilCheck _ | .build .. => true
  | .fieldAddr s _ f => fieldOK P s f
  | .convert _ dst _ => intType P dst
  | .call { callee := .builtin .len, .. } | .call { callee := .builtin .min, .. } | .call { callee := .builtin .max, .. } => true
  | _ => false
def plainAt (o : Oper) (ρ : Operand → Value) : Bool :=
  match o.op with
  | .binOp _ _ x y _ => plainW (ρ x) && plainW (ρ y)
  | .convert _ _ x => plainC (ρ x)
  | .nilCheck x => plainP (ρ x)
  | .call { callee := .builtin .len, args, .. } => args.toList.all fun x => plainL (ρ x)
  | .call { callee := .builtin .min, args, .. } | .call { callee := .builtin .max, args, .. } => args.toList.all fun x => plainI (ρ x)
  | _ => true
/-- does 'plainAt' ask anything of this operation? -/
def asksPlain (o : Oper) : Bool :=
  match o.op with
  | .binOp .. | .convert .. | .nilCheck _ | .call { callee := .builtin .len, .. } | .call { callee := .builtin .min, .. } | .call { callee := .builtin .max, .. } => true
  | _ => false
def CalmNext (P : Program) (s : Sem Next) : Prop := ∀ w n w1, s.run P w = .ok n w1 → ∃ u, n = .value u ∧ w1 = w ∧ ∀ w', s.run P w' = .ok (.value u) w'
theorem CalmNext.of {s : Sem Value} (h : Calm P s) : CalmNext P (do pure (.value (← s))) := fun w n w1 e => by
  obtain ⟨u, w2, e1, e2⟩ := bind_ok e
  obtain ⟨rfl, h'⟩ := h w u w2 e1
  simp [Sem.run, pure] at e2
  obtain ⟨rfl, rfl⟩ := e2
  exact ⟨u, rfl, rfl, fun w' => by rw [Sem.run_bind, h' w']; rfl⟩
theorem CalmNext.pure' (u : Value) : CalmNext P (pure (.value u) : Sem Next) := fun w n w1 e => by
  simp [Sem.run, pure] at e
  obtain ⟨rfl, rfl⟩ := e
  exact ⟨u, rfl, rfl, fun _ => rfl⟩
theorem CalmNext.never {s : Sem Next} (h : Never P s) : CalmNext P s := fun w n w1 e => absurd e (h w n w1)

theorem all_map {f : Value → Bool} {args : Array Operand} {ρ : Operand → Value} (h : (args.toList.all fun x => f (ρ x)) = true) : (args.map ρ).all f = true := by
  rw [Array.all_map, ← Array.all_toList]
  exact h
theorem calm_exec {o : Oper} {ρ : Operand → Value} (hk : calmKind P o = true) (hp : plainAt o ρ = true) : CalmNext P (execOp ρ o) := by
  obtain ⟨dst, op, type, pos, after, guard⟩ := o
  cases op <;> simp only [calmKind, Bool.false_eq_true] at hk <;> simp only [plainAt, Bool.and_eq_true] at hp <;> simp only [execOp]
  case move x => exact .pure' _
  case assign x => exact .pure' _
  case pick c a b =>
    intro w n w1 e
    obtain ⟨v, w2, e1, e2⟩ := bind_ok e
    obtain ⟨rfl, h'⟩ := calm_asBool _ w v w2 e1
    simp [Sem.run, pure] at e2
    obtain ⟨rfl, rfl⟩ := e2
    exact ⟨_, rfl, rfl, fun w' => by rw [Sem.run_bind, h' w']; rfl⟩
  case build t ps => exact .of (calm_build _ _)
  case nilCheck x =>
    split
    · exact .never (never_runtimePanic _)
    · exact .never (never_runtimePanic _)
    · exact .never (never_runtimePanic _)
    · rename_i h; rw [h] at hp; simp [plainP] at hp
    · exact .pure' _
  case binOp op t x y t' => exact .of (calm_bind (calm_eqGuard _ _ _ _ _ _ hp.1 hp.2) fun _ => calm_binOp _ _ _ _ hp.1 hp.2)
  case unOp => exact .of (calm_unary _ _)
  case convert s d x => exact .of (calm_convert _ _ _ hk hp)
  case makeInterface => exact .of (calm_makeInterface _ _)
  case makeFunc => exact .of (calm_pure _)
  case slice => exact .of (calm_sliceAt _ _ _ _ _)
  case fieldAddr => exact .of (calm_fieldAt _ _ _ hk)
  case field => exact .of (calm_field _ _ _)
  case indexAddr => exact .of (calm_indexAt _ _ _)
  case index => exact .of (calm_index _ _ _)
  case extract => exact .of (calm_extract _ _)
  case call c =>
    obtain ⟨callee, args, ts⟩ := c
    cases callee
    case value => exact Bool.noConfusion (show false = true from hk)
    case invoke => exact Bool.noConfusion (show false = true from hk)
    case builtin b =>
      cases b
      case len => exact .of (calm_len _ _ _ (all_map hp))
      case max => exact .of (calm_max _ _ _ (all_map hp))
      case min => exact .of (calm_min _ _ _ (all_map hp))
      all_goals exact Bool.noConfusion (show false = true from hk)

/-- a slice of bytes; a string -/
def bytesType (P : Program) (t : TypeId) : Bool := match P.underlying t with
  | some (.slice e) => match P.underlying e with
    | some (.int .u8) => true
    | _ => false
  | _ => false
def strType (P : Program) (t : TypeId) : Bool := match P.underlying t with
  | some .string => true
  | _ => false
theorem bytesType_out {t : TypeId} (h : bytesType P t = true) : ∃ e, P.underlying t = some (.slice e) ∧ P.underlying e = some (.int .u8) := by
  unfold bytesType at h
  split at h
  · rename_i e he
    split at h
    · rename_i h2; exact ⟨e, he, h2⟩
    · cases h
  · cases h
theorem strType_out {t : TypeId} (h : strType P t = true) : P.underlying t = some .string := by
  unfold strType at h
  split at h
  · assumption
  · cases h
def roKind (P : Program) (o : Oper) : Bool := match o.op with
  | .load .. => true
  | .convert s d _ => bytesType P s && strType P d
  | _ => false
theorem ro_loadCells (a : Addr) (n : Nat) : Ro P (loadCells a n) := ro_loadCellsFrom a n 0 #[]
theorem calm_str (cs : Array Value) : Calm P (do
    let mut s := ByteArray.empty
    for c in cs do
      let .int .u8 n := c | stuck "bytesToString: byte expected"
      s := s.push (UInt8.ofNat n.toNat)
    pure (.string s) : Sem Value) := by
  dsimp only
  refine calm_bind ?_ fun s => calm_pure _
  rw [← Array.forIn_toList]
  refine calm_forIn _ _ _ fun a _ b => ?_
  split
  · exact calm_pure _
  · exact (never_stuck _).calm
theorem ro_bytesToString (x : Value) : Ro P (Conv.bytesToString x) := by
  unfold Conv.bytesToString
  split
  · exact (calm_pure _).ro
  · exact ro_bind (ro_loadCells _ _) fun cs => (calm_str cs).ro
  · exact (never_stuck _).calm.ro
/-- such a conversion -/
theorem convert_str {s d : TypeId} (hs : bytesType P s = true) (hd : strType P d = true) (x : Value) (w : World) : (convert s d x).run P w = (match x with
    | .int _ n => Conv.intToString n
    | .string _ => pure x
    | x => Conv.bytesToString x).run P w := by
  obtain ⟨e, h1, h2⟩ := bytesType_out hs
  have h3 := strType_out hd
  unfold convert
  rw [Sem.run_bind, run_underlying h1]
  simp only [Result.andThen_ok]
  rw [Sem.run_bind, run_underlying h3]
  simp only [Result.andThen_ok]
  cases x <;> dsimp only <;> first | rfl | (rw [Sem.run_bind, run_underlying h2]; simp only [Result.andThen_ok])
theorem ro_convert {s d : TypeId} (hs : bytesType P s = true) (hd : strType P d = true) (x : Value) : Ro P (convert s d x) := fun w u w1 e => by
  rw [convert_str hs hd] at e
  revert e
  split
  · exact fun e => (calm_pure _).ro w u w1 e
  · exact fun e => (calm_pure _).ro w u w1 e
  · exact fun e => ro_bytesToString _ w u w1 e
theorem ro_exec {o : Oper} {ρ : Operand → Value} (hk : roKind P o = true) : ∀ w n w1, (execOp ρ o).run P w = .ok n w1 → ∃ u, n = .value u ∧ w1 = w := by
  obtain ⟨dst, op, type, pos, after, guard⟩ := o
  cases op <;> simp [roKind] at hk
  case load =>
    intro w n w1 e
    simp only [execOp] at e
    obtain ⟨u, w2, e1, e2⟩ := bind_ok e
    have h' := ro_loadAt _ _ w u w2 e1
    simp [Sem.run, pure] at e2
    exact ⟨u, e2.1.symm, by rw [← e2.2, h']⟩
  case convert =>
    intro w n w1 e
    simp only [execOp] at e
    obtain ⟨u, w2, e1, e2⟩ := bind_ok e
    have h' := ro_convert hk.1 hk.2 _ w u w2 e1
    simp [Sem.run, pure] at e2
    exact ⟨u, e2.1.symm, by rw [← e2.2, h']⟩

end Go.Txt
