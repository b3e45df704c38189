/- A region that draws its order may be walked in the order of its text, where the operations that no edge orders cannot be told apart. -/
import Derived.Orders
import Derived.Tactics
import Derived.Laws.Sem
import Derived.OrdersHeld
import Derived.Laws.AppendOwn
import Derived.WalkKit
import Derived.WalkSpells
import Derived.WalkLawsBesides
import Derived.Lib.Hide
import Derived.KernelRfl
import Derived.Lib.SliceRun
import Derived.Laws.CopyOwn
import Derived.Laws.Externs
import Derived.Lib.AppendZerosOnto
import Derived.Lib.Overlaps
import Derived.Laws.BytesArg
import Derived.Laws.MakeOwn
import Derived.RangeFuncCalls
import Derived.OrdersIn
import Derived.TacticsIn
import Derived.ProofKit
import Derived.OpenShut
import Derived.Deep.Slices
import Derived.Lib.SmallJoins
import Derived.Test.YthmnhpakgjnngaaGreatDoorRows
import Derived.Sort.Grow
import Derived.Lib.SlicesCompact
namespace Go.Txt
open Go

/-- yields one value whatever the world is, and leaves the world alone -/
def Calm {α : Type} (P : Program) (s : Sem α) : Prop := ∀ w a w1, s.run P w = .ok a w1 → w1 = w ∧ ∀ w', s.run P w' = .ok a w'
/-- leaves the world alone -/
def Ro {α : Type} (P : Program) (s : Sem α) : Prop := ∀ w a w1, s.run P w = .ok a w1 → w1 = w
/-- never comes to an end with a value -/
def Never {α : Type} (P : Program) (s : Sem α) : Prop := ∀ w a w1, s.run P w ≠ .ok a w1

variable {P : Program} {α β : Type}

theorem Calm.ro {s : Sem α} (h : Calm P s) : Ro P s := fun w a w1 e => (h w a w1 e).1
theorem Never.calm {s : Sem α} (h : Never P s) : Calm P s := fun w a w1 e => absurd e (h w a w1)
theorem calm_pure (a : α) : Calm P (pure a : Sem α) := fun w b w1 e => by
  simp [Sem.run, pure] at e; obtain ⟨rfl, rfl⟩ := e; exact ⟨rfl, fun _ => rfl⟩
theorem bind_ok {x : Sem α} {f : α → Sem β} {w w1 : World} {b : β} (e : (x >>= f).run P w = .ok b w1) : ∃ a w2, x.run P w = .ok a w2 ∧ (f a).run P w2 = .ok b w1 := by
  rw [Sem.run_bind] at e
  cases hx : x.run P w with
  | ok a w2 => rw [hx] at e; exact ⟨a, w2, rfl, e⟩
  | halt h w2 => rw [hx] at e; simp [Result.andThen] at e
theorem calm_bind {x : Sem α} {f : α → Sem β} (h : Calm P x) (k : ∀ a, Calm P (f a)) : Calm P (x >>= f) := fun w b w1 e => by
  obtain ⟨a, w2, e1, e2⟩ := bind_ok e
  obtain ⟨rfl, h'⟩ := h w a w2 e1
  obtain ⟨rfl, k'⟩ := k a _ b w1 e2
  exact ⟨rfl, fun w' => by rw [Sem.run_bind, h' w']; exact k' w'⟩
theorem ro_bind {x : Sem α} {f : α → Sem β} (h : Ro P x) (k : ∀ a, Ro P (f a)) : Ro P (x >>= f) := fun w b w1 e => by
  obtain ⟨a, w2, e1, e2⟩ := bind_ok e
  have := h w a w2 e1; subst this
  exact k a _ b w1 e2
theorem never_bind_l {x : Sem α} {f : α → Sem β} (h : Never P x) : Never P (x >>= f) := fun w b w1 e => by
  obtain ⟨a, w2, e1, _⟩ := bind_ok e
  exact h w a w2 e1
theorem never_bind_r {x : Sem α} {f : α → Sem β} (h : ∀ a, Never P (f a)) : Never P (x >>= f) := fun w b w1 e => by
  obtain ⟨a, w2, _, e2⟩ := bind_ok e
  exact h a w2 b w1 e2
theorem never_halt (h : Halt) : Never P (Sem.halt h : Sem α) := fun w a w1 e => by simp [Sem.run] at e
theorem never_stuck (y : String) : Never P (stuck y : Sem α) := never_halt _
theorem never_unsupported (y : Unsupported) : Never P (unsupported y : Sem α) := never_halt _
theorem never_goPanic (y : Value) : Never P (goPanic y : Sem α) := never_halt _
theorem calm_program : Calm P program := fun w a w1 e => by
  simp [program, Sem.run] at e; obtain ⟨rfl, rfl⟩ := e; exact ⟨rfl, fun _ => rfl⟩
theorem never_runtimePanic (y : RuntimeError) : Never P (runtimePanic y : Sem α) := by
  unfold runtimePanic
  refine never_bind_r fun p => ?_
  cases y <;> dsimp only
  all_goals first
    | exact never_goPanic _
    | exact never_bind_r fun _ => never_goPanic _
    | exact never_bind_r fun _ => never_bind_r fun _ => never_goPanic _
theorem never_boundsPanic (k : IntKind) (x y : Int) (c : BoundsCode) : Never P (boundsPanic k x y c : Sem α) := by
  unfold boundsPanic
  dsimp only
  split
  · exact never_bind_r fun _ => never_runtimePanic _
  · exact never_bind_r fun _ => never_runtimePanic _
theorem calm_ite {c : Prop} [Decidable c] {x y : Sem α} (hx : Calm P x) (hy : Calm P y) : Calm P (if c then x else y) := by split <;> assumption
theorem ro_ite {c : Prop} [Decidable c] {x y : Sem α} (hx : Ro P x) (hy : Ro P y) : Ro P (if c then x else y) := by split <;> assumption
theorem calm_typeInfo (t : TypeId) : Calm P (typeInfo t) := by
  unfold typeInfo
  refine calm_bind calm_program fun p => ?_
  split
  · exact calm_pure _
  · exact (never_stuck _).calm
theorem calm_underlying (t : TypeId) : Calm P (underlying t) := by
  unfold underlying
  refine calm_bind calm_program fun p => ?_
  split
  · exact calm_pure _
  · exact (never_stuck _).calm
theorem calm_sizeOf (t : TypeId) : Calm P (sizeOf t) := calm_bind (calm_typeInfo t) fun _ => calm_pure _
theorem calm_asIntOf (v : Value) : Calm P (asIntOf v) := by
  unfold asIntOf; split
  · exact calm_pure _
  · exact (never_unsupported _).calm
  · exact (never_stuck _).calm
theorem calm_asBool (v : Value) : Calm P (asBool v) := by
  unfold asBool; split
  · exact calm_pure _
  · exact (never_stuck _).calm
theorem calm_sureAddr (v : Value) : Calm P (Instr.sureAddr v) := by
  unfold Instr.sureAddr; split
  · exact calm_pure _
  · exact (never_stuck _).calm
theorem calm_isAgg (t : TypeId) : Calm P (isAgg t) := by
  unfold isAgg
  refine calm_bind (calm_underlying t) fun u => ?_
  split <;> exact calm_pure _
theorem ro_load (a : Addr) (m : Mode) : Ro P (load a m) := fun w v w1 e => by
  simp only [load, Sem.run] at e
  split at e
  · simp at e; exact e.2.symm
  · split at e
    · simp at e; exact e.2.symm
    · simp at e
theorem ro_loadCellsFrom (a : Addr) : ∀ (n i : Nat) (acc : Array Value), Ro P (loadCellsFrom a i n acc)
  | 0, _, _ => (calm_pure _).ro
  | n + 1, i, acc => by unfold loadCellsFrom; exact ro_bind (ro_load _ _) fun v => ro_loadCellsFrom a n (i + 1) (acc.push v)
theorem ro_loadVar (t : TypeId) (a : Addr) : Ro P (loadVar t a) := by
  unfold loadVar
  refine ro_bind (calm_isAgg t).ro fun b => ?_
  refine ro_ite ?_ (ro_load _ _)
  exact ro_bind (calm_sizeOf t).ro fun _ => ro_bind (ro_loadCellsFrom a _ 0 _) fun _ => (calm_pure _).ro
theorem ro_loadAt (t : TypeId) (v : Value) : Ro P (Instr.loadAt t v) := ro_bind (calm_sureAddr v).ro fun a => ro_loadVar t a


theorem calm_bind_of {R : α → Prop} {x : Sem α} {f : α → Sem β} (h : Calm P x) (hr : ∀ w a w1, x.run P w = .ok a w1 → R a) (k : ∀ a, R a → Calm P (f a)) : Calm P (x >>= f) := fun w b w1 e => by
  obtain ⟨a, w2, e1, e2⟩ := bind_ok e
  obtain ⟨rfl, h'⟩ := h w a w2 e1
  obtain ⟨rfl, k'⟩ := k a (hr _ _ _ e1) _ b w1 e2
  exact ⟨rfl, fun w' => by rw [Sem.run_bind, h' w']; exact k' w'⟩
theorem underlying_ok {t : TypeId} {d : TypeDesc} {w w1 : World} (e : (underlying t).run P w = .ok d w1) : P.underlying t = some d := by
  unfold underlying at e
  obtain ⟨p, w2, e1, e2⟩ := bind_ok e
  simp [program, Sem.run] at e1
  obtain ⟨rfl, rfl⟩ := e1
  split at e2
  · rename_i h; simp [Sem.run, pure] at e2; rw [h, e2.1]
  · exact absurd e2 (never_stuck _ _ _ _)
theorem sizeOf_ok {t : TypeId} {n : Nat} {w w1 : World} (e : (sizeOf t).run P w = .ok n w1) : ∃ i, P.info? t = some i ∧ i.size = n := by
  unfold sizeOf at e
  obtain ⟨i, w2, e1, e2⟩ := bind_ok e
  unfold typeInfo at e1
  obtain ⟨p, w3, e3, e4⟩ := bind_ok e1
  simp [program, Sem.run] at e3
  obtain ⟨rfl, rfl⟩ := e3
  simp [Sem.run, pure] at e2
  split at e4
  · rename_i h; simp [Sem.run, pure] at e4; exact ⟨_, h, by rw [e4.1]; exact e2.1⟩
  · exact absurd e4 (never_stuck _ _ _ _)

/-- the field is of at least one cell -/
def fieldOK (P : Program) (s : TypeId) (f : Nat) : Bool :=
  match P.underlying s with
  | some (.struct fs) => match fs[f]? with
    | some fl => (P.info? fl.type).any (·.size != 0)
    | none => true
  | _ => true

theorem calm_fieldAt (s : TypeId) (x : Value) (f : Nat) (h : fieldOK P s f = true) : Calm P (Instr.fieldAt s x f) := by
  unfold Instr.fieldAt
  refine calm_bind_of (R := fun d => P.underlying s = some d) (calm_underlying s) (fun _ _ _ e => underlying_ok e) fun d hd => ?_
  split
  · rename_i fields
    split
    · rename_i fl hfl
      refine calm_bind (calm_sureAddr x) fun a => ?_
      refine calm_bind ?_ fun _ => calm_pure _
      unfold fieldPlace
      refine calm_bind_of (R := fun n => n ≠ 0) (calm_sizeOf _) (fun w n w1 e => ?_) fun n hn => ?_
      · obtain ⟨i, hi, rfl⟩ := sizeOf_ok e
        simp [fieldOK, hd, hfl, hi] at h
        exact h
      · rw [if_neg hn]; exact calm_pure _
    · exact (never_stuck _).calm
  · exact (never_stuck _).calm

theorem calm_indexAt (t : TypeId) (x i : Value) : Calm P (Instr.indexAt t x i) := by
  unfold Instr.indexAt
  dsimp only
  repeat' (first | exact calm_pure _ | exact calm_sureAddr _ | exact calm_underlying _ | exact calm_sizeOf _ | exact calm_asIntOf _ | exact (never_stuck _).calm | exact (never_unsupported _).calm | exact (never_boundsPanic _ _ _ _).calm | exact calm_sliceBound _ _ _ | refine calm_bind ?_ fun _ => ?_ | refine calm_ite ?_ ?_ | split)

theorem calm_part (t : TypeId) (cs : Array Value) (o : Nat) : Calm P (part t cs o) := by
  unfold part
  refine calm_bind (calm_isAgg t) fun b => calm_ite ?_ ?_
  · exact calm_bind (calm_sizeOf t) fun _ => calm_pure _
  · split
    · exact calm_pure _
    · exact (never_stuck _).calm
theorem calm_asAgg (v : Value) : Calm P (asAgg v) := by
  unfold asAgg; split
  · exact calm_pure _
  · exact (never_stuck _).calm
theorem calm_asAddr (v : Value) : Calm P (asAddr v) := by
  unfold asAddr; split
  · exact calm_pure _
  · exact (never_runtimePanic _).calm
  · exact (never_stuck _).calm
theorem calm_field (t : TypeId) (x : Value) (f : Nat) : Calm P (Instr.field t x f) := by
  unfold Instr.field
  refine calm_bind (calm_underlying t) fun d => ?_
  split
  · split
    · exact calm_bind (calm_asAgg x) fun _ => calm_part _ _ _
    · exact (never_stuck _).calm
  · exact (never_stuck _).calm
theorem calm_index (t : TypeId) (x i : Value) : Calm P (Instr.index t x i) := by
  unfold Instr.index
  refine calm_bind (calm_asIntOf i) fun ki => ?_
  refine calm_bind (calm_underlying t) fun d => ?_
  split
  · exact calm_ite (calm_bind (calm_sizeOf _) fun _ => calm_part _ _ _) (never_boundsPanic _ _ _ _).calm
  · split
    · exact calm_pure _
    · exact (never_boundsPanic _ _ _ _).calm
  · exact (never_stuck _).calm
theorem calm_sliceBound (x : Value) (y : Nat) (c : BoundsCode) : Calm P (Instr.sliceBound x y c) := by
  unfold Instr.sliceBound
  exact calm_bind (calm_asIntOf x) fun _ => calm_ite (calm_pure _) (never_boundsPanic _ _ _ _).calm
theorem calm_sliceBounds (b : Bool) (l c : Nat) (lo hi mx : Option Value) : Calm P (Instr.sliceBounds b l c lo hi mx) := by
  unfold Instr.sliceBounds
  dsimp only
  repeat' (first | exact calm_pure _ | exact calm_sureAddr _ | exact calm_underlying _ | exact calm_sizeOf _ | exact calm_asIntOf _ | exact (never_stuck _).calm | exact (never_unsupported _).calm | exact (never_boundsPanic _ _ _ _).calm | exact calm_sliceBound _ _ _ | refine calm_bind ?_ fun _ => ?_ | refine calm_ite ?_ ?_ | split)
theorem calm_slice (t : TypeId) (x : Value) (lo hi mx : Option Value) : Calm P (Instr.slice t x lo hi mx) := by
  unfold Instr.slice
  refine calm_bind (calm_underlying t) fun d => ?_
  split
  · split
    · exact (never_bind_l (never_stuck _)).calm
    · exact calm_bind (calm_sliceBounds _ _ _ _ _ _) fun _ => calm_pure _
  · exact calm_bind (calm_sliceBounds _ _ _ _ _ _) fun _ => calm_bind (calm_sizeOf _) fun _ => calm_pure _
  · refine calm_bind (calm_asAddr _) fun a => calm_bind (calm_underlying _) fun d => ?_
    split
    · exact calm_bind (calm_sliceBounds _ _ _ _ _ _) fun _ => calm_bind (calm_sizeOf _) fun _ => calm_pure _
    · exact (never_stuck _).calm
  · exact (never_stuck _).calm
theorem calm_sliceAt (t : TypeId) (x : Value) (lo hi mx : Option Value) : Calm P (Instr.sliceAt t x lo hi mx) := by
  unfold Instr.sliceAt
  refine calm_bind (calm_underlying t) fun d => ?_
  split
  · exact calm_bind (calm_sureAddr _) fun _ => calm_bind (calm_sliceBounds _ _ _ _ _ _) fun _ => calm_bind (calm_sizeOf _) fun _ => calm_pure _
  · exact calm_slice _ _ _ _ _
theorem calm_extract (x : Value) (i : Nat) : Calm P (Instr.extract x i) := by
  unfold Instr.extract
  split
  · split
    · exact calm_pure _
    · exact (never_stuck _).calm
  · exact (never_stuck _).calm
theorem calm_unary (op : UnOp) (x : Value) : Calm P (Op.unary op x) := by
  unfold Op.unary Op.intArith Op.intBits
  split <;> first | exact calm_pure _ | exact (never_stuck _).calm | exact (never_unsupported _).calm

def plainV : Value → Bool
  | .int _ _ | .bool _ | .string _ | .tuple _ => true
  | _ => false
def plainI : Value → Bool
  | .int _ _ | .tuple _ => true
  | _ => false
def plainP : Value → Bool
  | .pointer _ | .tuple _ => true
  | _ => false
def plainC : Value → Bool
  | .int _ _ | .tuple _ | .slice _ _ _ => true
  | _ => false
def plainL : Value → Bool
  | .slice _ _ _ | .string _ | .tuple _ => true
  | _ => false

theorem calm_stringOp (op : BinOp) (x y : ByteArray) : Calm P (Op.stringOp op x y) := by
  unfold Op.stringOp
  dsimp only
  repeat' (first | exact calm_pure _ | exact (never_stuck _).calm | exact (never_unsupported _).calm | refine calm_ite ?_ ?_ | split)
/-- a plain value, or a struct or array of such -/
def plainW : Value → Bool
  | .agg cs => cs.toList.all plainV
  | v => plainV v
theorem plainV_W {v : Value} (h : plainV v = true) : plainW v = true := by cases v <;> simp [plainV] at h <;> rfl
theorem calm_forIn {σ : Type} (f : α → σ → Sem (ForInStep σ)) : ∀ (l : List α) (b : σ), (∀ a ∈ l, ∀ b, Calm P (f a b)) → Calm P (forIn l b f)
  | [], b, _ => by rw [List.forIn_nil]; exact calm_pure _
  | a :: l, b, h => by
    rw [List.forIn_cons]
    refine calm_bind (h a (by simp) b) fun r => ?_
    cases r with
    | done b => exact calm_pure _
    | yield b => exact calm_forIn f l b fun x hx => h x (by simp [hx])
theorem part_plain {t : TypeId} {cs : Array Value} {o : Nat} (hc : cs.toList.all plainV = true) {w w1 : World} {v : Value} (e : (part t cs o).run P w = .ok v w1) : plainW v = true := by
  have hc' : ∀ x ∈ cs.toList, plainV x = true := List.all_eq_true.1 hc
  unfold part at e
  obtain ⟨b, w2, _, e⟩ := bind_ok e
  split at e
  · obtain ⟨n, w3, _, e⟩ := bind_ok e
    simp [Sem.run, pure] at e
    rw [← e.1]
    refine List.all_eq_true.2 fun x hx => hc' x ?_
    simp at hx
    exact List.mem_of_mem_drop (List.mem_of_mem_take hx)
  · split at e
    · rename_i v' hv
      simp [Sem.run, pure] at e
      rw [← e.1]
      exact plainV_W (hc' v' (by simpa using Array.mem_of_getElem? hv))
    · exact absurd e (never_stuck _ _ _ _)
theorem calm_rec2 {g : TypeId → Value → Value → Sem Bool} (ih : ∀ (t : TypeId) (x y : Value), plainW x = true → plainW y = true → Calm P (g t x y)) {xs ys : Array Value}
    (hx : xs.toList.all plainV = true) (hy : ys.toList.all plainV = true) {σ : Type} (e : TypeId) (o : Nat) (f : Bool → Sem σ) (hf : ∀ b, Calm P (f b)) :
    Calm P (do f (← g e (← part e xs o) (← part e ys o))) := by
  refine calm_bind_of (R := fun v => plainW v = true) (calm_part _ _ _) (fun _ _ _ e => part_plain hx e) fun v hv => ?_
  refine calm_bind_of (R := fun v => plainW v = true) (calm_part _ _ _) (fun _ _ _ e => part_plain hy e) fun v' hv' => ?_
  exact calm_bind (ih _ _ _ hv hv') fun b => hf b
theorem calm_equalIn_agg (d : Nat) (ih : ∀ (t : TypeId) (x y : Value), plainW x = true → plainW y = true → Calm P (Op.equalIn d t x y)) (t : TypeId) (xs ys : Array Value)
    (hx : xs.toList.all plainV = true) (hy : ys.toList.all plainV = true) : Calm P (Op.equalIn (d + 1) t (.agg xs) (.agg ys)) := by
  unfold Op.equalIn
  refine calm_bind (calm_underlying t) fun u => ?_
  cases u <;> dsimp only <;> first | exact (never_stuck _).calm | skip
  case array n e =>
    refine calm_bind (calm_sizeOf _) fun k => ?_
    rw [Std.Legacy.Range.forIn_eq_forIn_range']
    refine calm_bind (calm_forIn _ _ _ fun a _ b => ?_) fun r => ?_
    · exact calm_rec2 ih hx hy _ _ _ fun b => calm_ite (calm_pure _) (calm_pure _)
    · (try dsimp only); split <;> exact calm_pure _
  case struct fs =>
    refine calm_bind calm_program fun p => ?_
    split
    · exact (never_bind_l (never_unsupported _)).calm
    · rw [← Array.forIn_toList]
      refine calm_bind (calm_forIn _ _ _ fun a _ b => ?_) fun r => ?_
      · refine calm_ite ?_ (calm_pure _)
        exact calm_rec2 ih hx hy _ _ _ fun b => calm_ite (calm_pure _) (calm_pure _)
      · (try dsimp only); split <;> exact calm_pure _
theorem calm_equalIn : ∀ (d : Nat) (t : TypeId) (x y : Value), plainW x = true → plainW y = true → Calm P (Op.equalIn d t x y) := by
  intro d
  induction d with
  | zero => intro t x y _ _; unfold Op.equalIn; exact (never_unsupported _).calm
  | succ d ih =>
    intro t x y hx hy
    by_cases hxa : ∃ xs, x = .agg xs
    · obtain ⟨xs, rfl⟩ := hxa
      by_cases hya : ∃ ys, y = .agg ys
      · obtain ⟨ys, rfl⟩ := hya
        exact calm_equalIn_agg d ih t xs ys hx hy
      · cases y <;> simp [plainW, plainV] at hy hya <;> unfold Op.equalIn <;> refine calm_bind (calm_underlying t) fun u => ?_ <;> cases u <;> exact (never_stuck _).calm
    · unfold Op.equalIn
      refine calm_bind (calm_underlying t) fun u => ?_
      cases x <;> simp [plainW, plainV] at hx hxa <;> cases y <;> simp [plainW, plainV] at hy <;> cases u <;> dsimp only <;>
        first
        | exact calm_pure _
        | exact (never_stuck _).calm
        | exact (never_unsupported _).calm
        | exact calm_ite (calm_pure _) (never_stuck _).calm
theorem calm_eqGuardIn : ∀ (d : Nat) (t : TypeId) (x y : Value), plainW x = true → plainW y = true → Calm P (Op.eqGuardIn d t x y) := by
  intro d
  induction d with
  | zero => intro t x y _ _; unfold Op.eqGuardIn; exact (never_unsupported _).calm
  | succ d ih =>
    intro t x y hx hy
    unfold Op.eqGuardIn
    refine calm_bind (calm_underlying t) fun u => ?_
    split
    · exact calm_pure _
    · rename_i fs xs ys
      have hx' : xs.toList.all plainV = true := hx
      have hy' : ys.toList.all plainV = true := hy
      rw [← Array.forIn_toList]
      refine calm_bind (calm_forIn _ _ _ fun a _ b => ?_) fun r => ?_
      · refine calm_ite ?_ (calm_pure _)
        exact calm_rec2 ih hx' hy' _ _ _ fun b => calm_ite (calm_pure _) (calm_pure _)
      · (try dsimp only); split <;> exact calm_pure _
    · rename_i n e xs ys
      have hx' : xs.toList.all plainV = true := hx
      have hy' : ys.toList.all plainV = true := hy
      refine calm_bind (calm_sizeOf _) fun k => ?_
      rw [Std.Legacy.Range.forIn_eq_forIn_range']
      refine calm_bind (calm_forIn _ _ _ fun a _ b => ?_) fun r => ?_
      · exact calm_rec2 ih hx' hy' _ _ _ fun b => calm_ite (calm_pure _) (calm_pure _)
      · (try dsimp only); split <;> exact calm_pure _
    · exact calm_pure _

theorem calm_equal (t : TypeId) (x y : Value) (hx : plainW x = true) (hy : plainW y = true) : Calm P (Op.equal t x y) := calm_equalIn _ _ _ _ hx hy
theorem calm_binOp (op : BinOp) (t : TypeId) (x y : Value) (hx : plainW x = true) (hy : plainW y = true) : Calm P (binOp op t x y) := by
  have he := calm_equal (P := P) t x y hx hy
  cases x <;> simp [plainW, plainV] at hx <;> cases y <;> simp [plainW, plainV] at hy <;> cases op <;> simp only [binOp] <;>
    first
    | exact calm_stringOp _ _ _
    | exact calm_bind he fun _ => calm_pure _
    | exact (never_stuck _).calm
    | (repeat' (first | exact calm_pure _ | exact (never_stuck _).calm | exact (never_unsupported _).calm | exact (never_runtimePanic _).calm | refine calm_ite ?_ ?_ | split | unfold Op.shift | unfold Op.intArith | unfold Op.intDiv | unfold Op.intBits | unfold Op.intCmp | dsimp only))
theorem calm_eqGuard (op : BinOp) (t : TypeId) (o1 o2 : Operand) (x y : Value) (hx : plainW x = true) (hy : plainW y = true) : Calm P (eqGuard op t o1 o2 x y) := by
  have he := calm_eqGuardIn (P := P) Op.maxDepth t x y hx hy
  unfold eqGuard
  refine calm_ite (calm_pure _) ?_
  split
  · simp [plainW, plainV] at hx
  · refine calm_bind calm_program fun p => calm_bind calm_program fun q => ?_
    split
    · exact calm_pure _
    · refine calm_bind he fun b => ?_
      split
      · exact (never_unsupported _).calm
      · exact calm_pure _
  · exact calm_pure _
def intType (P : Program) (t : TypeId) : Bool :=
  match P.underlying t with
  | some (.int _) => true
  | _ => false
theorem calm_convert (src dst : TypeId) (x : Value) (hd : intType P dst = true) (hx : plainC x = true) : Calm P (convert src dst x) := by
  unfold convert
  refine calm_bind (calm_underlying _) fun d1 => ?_
  refine calm_bind_of (R := fun d => P.underlying dst = some d) (calm_underlying _) (fun _ _ _ e => underlying_ok e) fun d2 h2 => ?_
  unfold intType at hd
  rw [h2] at hd
  cases d2 <;> simp at hd
  cases x <;> simp [plainC] at hx <;> cases d1 <;> simp only [Conv.intToInt] <;>
    (repeat' (first | contradiction | exact calm_pure _ | exact (never_stuck _).calm | exact (never_unsupported _).calm | exact (never_runtimePanic _).calm | refine calm_bind (calm_underlying _) fun _ => ?_ | split))
theorem calm_len (ts : Array TypeId) (t : TypeId) (args : Array Value) (h : args.all plainL = true) : Calm P (Builtin.len_ ts t args) := by
  unfold Builtin.len_
  cases ht : ts[0]? with
  | none => exact (never_stuck _).calm
  | some t =>
    cases hx : args[0]? with
    | none => exact (never_stuck _).calm
    | some x =>
      have hx : plainL x = true := Array.all_eq_true_iff_forall_mem.1 h x (Array.mem_of_getElem? hx)
      dsimp only
      refine calm_bind (calm_underlying _) fun d => ?_
      cases x <;> simp [plainL] at hx <;> cases d <;> dsimp only <;>
        (repeat' (first | exact calm_pure _ | exact (never_stuck _).calm | exact (never_unsupported _).calm | refine calm_bind (calm_underlying _) fun _ => ?_ | split))
theorem calm_min2 (x y : Value) (hx : plainI x = true) (hy : plainI y = true) : Calm P (Builtin.min2 x y) := by
  cases x <;> simp [plainI] at hx <;> cases y <;> simp [plainI] at hy <;> unfold Builtin.min2 <;> first | exact calm_pure _ | exact (never_stuck _).calm
theorem min2_plain (x y : Value) (hx : plainI x = true) (hy : plainI y = true) (w : World) (v : Value) (w1 : World) (e : (Builtin.min2 x y).run P w = .ok v w1) : plainI v = true := by
  cases x <;> simp [plainI] at hx <;> cases y <;> simp [plainI] at hy <;> simp [Builtin.min2, Sem.run, pure, stuck] at e <;> (rw [← e.1]; rfl)
theorem calm_max2 (x y : Value) (hx : plainI x = true) (hy : plainI y = true) : Calm P (Builtin.max2 x y) := by
  cases x <;> simp [plainI] at hx <;> cases y <;> simp [plainI] at hy <;> unfold Builtin.max2 <;> first | exact calm_pure _ | exact (never_stuck _).calm
theorem max2_plain (x y : Value) (hx : plainI x = true) (hy : plainI y = true) (w : World) (v : Value) (w1 : World) (e : (Builtin.max2 x y).run P w = .ok v w1) : plainI v = true := by
  cases x <;> simp [plainI] at hx <;> cases y <;> simp [plainI] at hy <;> simp [Builtin.max2, Sem.run, pure, stuck] at e <;> (rw [← e.1]; rfl)
theorem calm_foldlM (f : Value → Value → Sem Value) (hf : ∀ x y, plainI x = true → plainI y = true → Calm P (f x y)) (hg : ∀ x y, plainI x = true → plainI y = true → ∀ w v w1, (f x y).run P w = .ok v w1 → plainI v = true) :
    ∀ (l : List Value) (x : Value), plainI x = true → (∀ y ∈ l, plainI y = true) → Calm P (l.foldlM f x)
  | [], x, _, _ => calm_pure _
  | y :: l, x, hx, hl => by
    rw [List.foldlM_cons]
    exact calm_bind_of (R := fun v => plainI v = true) (hf x y hx (hl y (by simp))) (fun w v w1 e => hg x y hx (hl y (by simp)) w v w1 e) fun v hv => calm_foldlM f hf hg l v hv (fun z hz => hl z (by simp [hz]))
theorem calm_min (ts : Array TypeId) (t : TypeId) (args : Array Value) (h : args.all plainI = true) : Calm P (Builtin.min_ ts t args) := by
  unfold Builtin.min_
  have h' : ∀ y ∈ args.toList, plainI y = true := fun y hy => Array.all_eq_true_iff_forall_mem.1 h y (by simpa using hy)
  split
  · exact (never_stuck _).calm
  · rename_i x r hx
    rw [hx] at h'
    exact calm_foldlM _ calm_min2 min2_plain r x (h' x (by simp)) fun y hy => h' y (by simp [hy])
theorem calm_max (ts : Array TypeId) (t : TypeId) (args : Array Value) (h : args.all plainI = true) : Calm P (Builtin.max_ ts t args) := by
  unfold Builtin.max_
  have h' : ∀ y ∈ args.toList, plainI y = true := fun y hy => Array.all_eq_true_iff_forall_mem.1 h y (by simpa using hy)
  split
  · exact (never_stuck _).calm
  · rename_i x r hx
    rw [hx] at h'
    exact calm_foldlM _ calm_max2 max2_plain r x (h' x (by simp)) fun y hy => h' y (by simp [hy])
theorem calm_build (t : TypeId) (parts : Array (Nat × Value)) : Calm P (Instr.build t parts) := by
  unfold Instr.build
  have hz : Calm P (zeroValue t) := by
    unfold zeroValue
    refine calm_bind (calm_typeInfo t) fun i => ?_
    split
    · exact calm_pure _
    · exact (never_unsupported _).calm
  have hm : ∀ fields : List Field, Calm P (fields.mapM fun f => do pure (f.offset, ← sizeOf f.type)) := by
    intro fields
    induction fields with
    | nil => exact calm_pure _
    | cons f l ih =>
      rw [List.mapM_cons]
      exact calm_bind (calm_bind (calm_sizeOf _) fun _ => calm_pure _) fun _ => calm_bind ih fun _ => calm_pure _
  refine calm_bind hz fun z => calm_bind (calm_underlying t) fun d => ?_
  split
  · rename_i fields
    rw [Array.mapM_eq_mapM_toList]
    refine calm_bind ?_ fun places => ?_
    · rw [map_eq_pure_bind]
      exact calm_bind (hm _) fun _ => calm_pure _
    · split
      · exact calm_pure _
      · exact (never_stuck _).calm
  · refine calm_bind (calm_sizeOf _) fun n => ?_
    split
    · exact calm_pure _
    · exact (never_stuck _).calm
  · exact (never_stuck _).calm
theorem calm_makeInterface (t : TypeId) (x : Value) : Calm P (Instr.makeInterface t x) := by
  unfold Instr.makeInterface
  refine calm_bind (calm_underlying _) fun d => ?_
  split
  · exact (never_stuck _).calm
  · exact calm_pure _

/-- operations whose value hangs on their operands alone (where 'plainAt' holds of them) -/
def calmKind (P : Program) (o : Oper) : Bool :=
  match o.op with
  | .move _ | .assign _ | .pick .. | .extract .. | .unOp .. | .indexAddr .. | .slice .. | .field .. | .index .. | .makeInterface .. | .makeFunc .. | .binOp .. | .nilCheck _ | .build .. => true
  | .fieldAddr s _ f => fieldOK P s f
  | .convert _ dst _ => intType P dst
  | .call { callee := .builtin .len, .. } | .call { callee := .builtin .min, .. } | .call { callee := .builtin .max, .. } => true
  | _ => false
def plainAt (o : Oper) (ρ : Operand → Value) : Bool :=
  match o.op with
  | .binOp _ _ x y _ => plainW (ρ x) && plainW (ρ y)
  | .convert _ _ x => plainC (ρ x)
  | .nilCheck x => plainP (ρ x)
  | .call { callee := .builtin .len, args, .. } => args.toList.all fun x => plainL (ρ x)
  | .call { callee := .builtin .min, args, .. } | .call { callee := .builtin .max, args, .. } => args.toList.all fun x => plainI (ρ x)
  | _ => true
/-- does 'plainAt' ask anything of this operation? -/
def asksPlain (o : Oper) : Bool :=
  match o.op with
  | .binOp .. | .convert .. | .nilCheck _ | .call { callee := .builtin .len, .. } | .call { callee := .builtin .min, .. } | .call { callee := .builtin .max, .. } => true
  | _ => false
def CalmNext (P : Program) (s : Sem Next) : Prop := ∀ w n w1, s.run P w = .ok n w1 → ∃ u, n = .value u ∧ w1 = w ∧ ∀ w', s.run P w' = .ok (.value u) w'
theorem CalmNext.of {s : Sem Value} (h : Calm P s) : CalmNext P (do pure (.value (← s))) := fun w n w1 e => by
  obtain ⟨u, w2, e1, e2⟩ := bind_ok e
  obtain ⟨rfl, h'⟩ := h w u w2 e1
  simp [Sem.run, pure] at e2
  obtain ⟨rfl, rfl⟩ := e2
  exact ⟨u, rfl, rfl, fun w' => by rw [Sem.run_bind, h' w']; rfl⟩
theorem CalmNext.pure' (u : Value) : CalmNext P (pure (.value u) : Sem Next) := fun w n w1 e => by
  simp [Sem.run, pure] at e
  obtain ⟨rfl, rfl⟩ := e
  exact ⟨u, rfl, rfl, fun _ => rfl⟩
theorem CalmNext.never {s : Sem Next} (h : Never P s) : CalmNext P s := fun w n w1 e => absurd e (h w n w1)

theorem all_map {f : Value → Bool} {args : Array Operand} {ρ : Operand → Value} (h : (args.toList.all fun x => f (ρ x)) = true) : (args.map ρ).all f = true := by
  rw [Array.all_map, ← Array.all_toList]
  exact h
theorem calm_exec {o : Oper} {ρ : Operand → Value} (hk : calmKind P o = true) (hp : plainAt o ρ = true) : CalmNext P (execOp ρ o) := by
  obtain ⟨dst, op, type, pos, after, guard⟩ := o
  cases op <;> simp only [calmKind, Bool.false_eq_true] at hk <;> simp only [plainAt, Bool.and_eq_true] at hp <;> simp only [execOp]
  case move x => exact .pure' _
  case assign x => exact .pure' _
  case pick c a b =>
    intro w n w1 e
    obtain ⟨v, w2, e1, e2⟩ := bind_ok e
    obtain ⟨rfl, h'⟩ := calm_asBool _ w v w2 e1
    simp [Sem.run, pure] at e2
    obtain ⟨rfl, rfl⟩ := e2
    exact ⟨_, rfl, rfl, fun w' => by rw [Sem.run_bind, h' w']; rfl⟩
  case build t ps => exact .of (calm_build _ _)
  case nilCheck x =>
    split
    · exact .never (never_runtimePanic _)
    · exact .never (never_runtimePanic _)
    · exact .never (never_runtimePanic _)
    · rename_i h; rw [h] at hp; simp [plainP] at hp
    · exact .pure' _
  case binOp op t x y t' => exact .of (calm_bind (calm_eqGuard _ _ _ _ _ _ hp.1 hp.2) fun _ => calm_binOp _ _ _ _ hp.1 hp.2)
  case unOp => exact .of (calm_unary _ _)
  case convert s d x => exact .of (calm_convert _ _ _ hk hp)
  case makeInterface => exact .of (calm_makeInterface _ _)
  case makeFunc => exact .of (calm_pure _)
  case slice => exact .of (calm_sliceAt _ _ _ _ _)
  case fieldAddr => exact .of (calm_fieldAt _ _ _ hk)
  case field => exact .of (calm_field _ _ _)
  case indexAddr => exact .of (calm_indexAt _ _ _)
  case index => exact .of (calm_index _ _ _)
  case extract => exact .of (calm_extract _ _)
  case call c =>
    obtain ⟨callee, args, ts⟩ := c
    cases callee
    case value => exact Bool.noConfusion (show false = true from hk)
    case invoke => exact Bool.noConfusion (show false = true from hk)
    case builtin b =>
      cases b
      case len => exact .of (calm_len _ _ _ (all_map hp))
      case max => exact .of (calm_max _ _ _ (all_map hp))
      case min => exact .of (calm_min _ _ _ (all_map hp))
      all_goals exact Bool.noConfusion (show false = true from hk)

/-- a slice of bytes; a string -/
def bytesType (P : Program) (t : TypeId) : Bool := match P.underlying t with
  | some (.slice e) => match P.underlying e with
    | some (.int .u8) => true
    | _ => false
  | _ => false
def strType (P : Program) (t : TypeId) : Bool := match P.underlying t with
  | some .string => true
  | _ => false
theorem bytesType_out {t : TypeId} (h : bytesType P t = true) : ∃ e, P.underlying t = some (.slice e) ∧ P.underlying e = some (.int .u8) := by
  unfold bytesType at h
  split at h
  · rename_i e he
    split at h
    · rename_i h2; exact ⟨e, he, h2⟩
    · cases h
  · cases h
theorem strType_out {t : TypeId} (h : strType P t = true) : P.underlying t = some .string := by
  unfold strType at h
  split at h
  · assumption
  · cases h
def roKind (P : Program) (o : Oper) : Bool := match o.op with
  | .load .. => true
  | .convert s d _ => bytesType P s && strType P d
  | _ => false
theorem ro_loadCells (a : Addr) (n : Nat) : Ro P (loadCells a n) := ro_loadCellsFrom a n 0 #[]
theorem calm_str (cs : Array Value) : Calm P (do
    let mut s := ByteArray.empty
    for c in cs do
      let .int .u8 n := c | stuck "bytesToString: byte expected"
      s := s.push (UInt8.ofNat n.toNat)
    pure (.string s) : Sem Value) := by
  dsimp only
  refine calm_bind ?_ fun s => calm_pure _
  rw [← Array.forIn_toList]
  refine calm_forIn _ _ _ fun a _ b => ?_
  split
  · exact calm_pure _
  · exact (never_stuck _).calm
theorem ro_bytesToString (x : Value) : Ro P (Conv.bytesToString x) := by
  unfold Conv.bytesToString
  split
  · exact (calm_pure _).ro
  · exact ro_bind (ro_loadCells _ _) fun cs => (calm_str cs).ro
  · exact (never_stuck _).calm.ro
/-- such a conversion -/
theorem convert_str {s d : TypeId} (hs : bytesType P s = true) (hd : strType P d = true) (x : Value) (w : World) : (convert s d x).run P w = (match x with
    | .int _ n => Conv.intToString n
    | .string _ => pure x
    | x => Conv.bytesToString x).run P w := by
  obtain ⟨e, h1, h2⟩ := bytesType_out hs
  have h3 := strType_out hd
  unfold convert
  rw [Sem.run_bind, run_underlying h1]
  simp only [Result.andThen_ok]
  rw [Sem.run_bind, run_underlying h3]
  simp only [Result.andThen_ok]
  cases x <;> dsimp only <;> first | rfl | (rw [Sem.run_bind, run_underlying h2]; simp only [Result.andThen_ok])
theorem ro_convert {s d : TypeId} (hs : bytesType P s = true) (hd : strType P d = true) (x : Value) : Ro P (convert s d x) := fun w u w1 e => by
  rw [convert_str hs hd] at e
  revert e
  split
  · exact fun e => (calm_pure _).ro w u w1 e
  · exact fun e => (calm_pure _).ro w u w1 e
  · exact fun e => ro_bytesToString _ w u w1 e
theorem ro_exec {o : Oper} {ρ : Operand → Value} (hk : roKind P o = true) : ∀ w n w1, (execOp ρ o).run P w = .ok n w1 → ∃ u, n = .value u ∧ w1 = w := by
  obtain ⟨dst, op, type, pos, after, guard⟩ := o
  cases op <;> simp [roKind] at hk
  case load =>
    intro w n w1 e
    simp only [execOp] at e
    obtain ⟨u, w2, e1, e2⟩ := bind_ok e
    have h' := ro_loadAt _ _ w u w2 e1
    simp [Sem.run, pure] at e2
    exact ⟨u, e2.1.symm, by rw [← e2.2, h']⟩
  case convert =>
    intro w n w1 e
    simp only [execOp] at e
    obtain ⟨u, w2, e1, e2⟩ := bind_ok e
    have h' := ro_convert hk.1 hk.2 _ w u w2 e1
    simp [Sem.run, pure] at e2
    exact ⟨u, e2.1.symm, by rw [← e2.2, h']⟩

end Go.Txt
/- A region that draws its order may be walked in the order of its text: the orders. -/
namespace Go.Txt
open Go
variable {P : Program}

/-! ### What a load reads -/
/-- hangs on block b alone -/
def At (P : Program) (b : Nat) {α : Type} (s : Sem α) : Prop := ∀ w u w1, s.run P w = .ok u w1 → (∃ c e f, w.heap[b]? = some (.cells c e f)) → w1 = w ∧ ∀ w', w'.heap[b]? = w.heap[b]? → s.run P w' = .ok u w'
theorem Calm.at {α : Type} {s : Sem α} {b : Nat} (h : Calm P s) : At P b s := fun w u w1 e _ => ⟨(h w u w1 e).1, fun w' _ => (h w u w1 e).2 w'⟩
theorem at_bind {α β : Type} {b : Nat} {x : Sem α} {f : α → Sem β} (h : At P b x) (k : ∀ a, At P b (f a)) : At P b (x >>= f) := fun w u w1 e hc => by
  obtain ⟨a, w2, e1, e2⟩ := bind_ok e
  obtain ⟨rfl, h'⟩ := h w a w2 e1 hc
  obtain ⟨rfl, k'⟩ := k a _ u w1 e2 hc
  exact ⟨rfl, fun w' hw => by rw [Sem.run_bind, h' w' hw]; exact k' w' hw⟩
theorem at_ite {α : Type} {b : Nat} {c : Prop} [Decidable c] {x y : Sem α} (hx : At P b x) (hy : At P b y) : At P b (if c then x else y) := by split <;> assumption
theorem at_load (a : Addr) (m : Mode) : At P a.block (load a m) := fun w u w1 e hc => by
  obtain ⟨c, t, f, hc⟩ := hc
  simp only [load, Sem.run] at e
  split at e
  · rename_i v hv
    simp at e
    obtain ⟨rfl, rfl⟩ := e
    refine ⟨rfl, fun w' hw => ?_⟩
    have : w'.cell? a = some v := by rw [← hv]; exact World.cell?_of_block hw
    simp [load, Sem.run, this]
  · simp [World.farLoad, hc] at e
theorem at_loadCellsFrom (a : Addr) : ∀ (n i : Nat) (acc : Array Value), At P a.block (loadCellsFrom a i n acc)
  | 0, _, _ => (calm_pure _).at
  | n + 1, i, acc => by
    unfold loadCellsFrom
    have hb : (a.add i).block = a.block := by unfold Addr.add; split <;> rfl
    exact at_bind (hb ▸ at_load (a.add i) .plain) fun v => at_loadCellsFrom a n (i + 1) (acc.push v)
theorem at_loadVar (t : TypeId) (a : Addr) : At P a.block (loadVar t a) := by
  unfold loadVar
  refine at_bind (calm_isAgg t).at fun b => ?_
  refine at_ite ?_ (at_load _ _)
  exact at_bind (calm_sizeOf t).at fun _ => at_bind (at_loadCellsFrom a _ 0 _) fun _ => (calm_pure _).at

/-- the operand, if it is an address, is one in one of the blocks (else the load is stuck, or is not carried out) -/
def InB (blocks : List Nat) : Value → Prop
  | .pointer (some a) => a.block ∈ blocks
  | _ => True
/-- the bytes of a slice lie in one of the blocks -/
def InS (blocks : List Nat) : Value → Prop
  | .slice (some a) n _ => n = 0 ∨ a.block ∈ blocks
  | _ => True
def FloatAt (blocks : List Nat) (o : Oper) (ρ : Operand → Value) : Prop :=
  match o.op with
  | .load _ x => InB blocks (ρ x)
  | .convert _ _ x => InS blocks (ρ x)
  | _ => True
/-- the blocks are rows of cells, and as they were in w0 -/
def SameB (blocks : List Nat) (w0 w : World) : Prop := ∀ b ∈ blocks, (∃ c e f, w.heap[b]? = some (.cells c e f)) ∧ w.heap[b]? = w0.heap[b]?

theorem float_exec {blocks : List Nat} {w0 : World} {o : Oper} {ρ : Operand → Value} (hk : roKind P o = true) (hf : FloatAt blocks o ρ) {w : World} (hS : SameB blocks w0 w) {n : Next} {w1 : World}
    (e : (execOp ρ o).run P w = .ok n w1) : ∃ u, n = .value u ∧ w1 = w ∧ ∀ w', SameB blocks w0 w' → (execOp ρ o).run P w' = .ok (.value u) w' := by
  obtain ⟨dst, op, type, pos, after, guard⟩ := o
  cases op <;> simp [roKind] at hk
  case load t x =>
    simp only [FloatAt] at hf
    simp only [execOp] at e ⊢
    obtain ⟨u, w2, e1, e2⟩ := bind_ok e
    simp [Sem.run, pure] at e2
    obtain ⟨rfl, rfl⟩ := e2
    unfold Instr.loadAt at e1
    obtain ⟨a, w3, e3, e4⟩ := bind_ok e1
    unfold Instr.sureAddr at e3
    split at e3
    · rename_i v a' hv
      simp [Sem.run, pure] at e3
      obtain ⟨rfl, rfl⟩ := e3
      rw [hv] at hf
      obtain ⟨hc, hw⟩ := hS _ hf
      obtain ⟨rfl, h'⟩ := at_loadVar t a' w u w2 e4 hc
      refine ⟨u, rfl, rfl, fun w' hS' => ?_⟩
      obtain ⟨_, hw'⟩ := hS' _ hf
      rw [Sem.run_bind, hv]
      simp only [Instr.loadAt, Instr.sureAddr]
      rw [Sem.run_bind]
      simp only [Sem.run, pure, Result.andThen_ok]
      rw [h' w' (hw'.trans hw.symm)]
      rfl
    · exact absurd e3 (never_stuck _ _ _ _)
  case convert s d x =>
    simp only [FloatAt] at hf
    simp only [execOp] at e ⊢
    obtain ⟨u, w2, e1, e2⟩ := bind_ok e
    simp [Sem.run, pure] at e2
    obtain ⟨rfl, rfl⟩ := e2
    rw [convert_str hk.1 hk.2] at e1
    have key : w2 = w ∧ ∀ w', SameB blocks w0 w' → (convert s d (ρ x)).run P w' = .ok u w' := by
      have hcv := fun w' => convert_str hk.1 hk.2 (ρ x) w'
      revert e1 hf
      generalize ρ x = v at hcv ⊢
      intro hf e1
      have calm : ∀ s0 : Sem Value, Calm P s0 → s0.run P w = .ok u w2 → (∀ w', (convert s d v).run P w' = s0.run P w') → w2 = w ∧ ∀ w', SameB blocks w0 w' → (convert s d v).run P w' = .ok u w' := fun s0 hc h1 h2 => by
        obtain ⟨rfl, h'⟩ := hc w u w2 h1
        exact ⟨rfl, fun w' _ => by rw [h2, h' w']⟩
      cases v
      case int => exact calm _ (calm_pure _) e1 hcv
      case string => exact calm _ (calm_pure _) e1 hcv
      case slice a n c =>
        cases a with
        | none => exact calm _ (calm_pure _) e1 hcv
        | some ad =>
          simp only [Conv.bytesToString] at e1 hcv
          rcases hf with h0 | hm
          · subst h0
            refine calm _ (calm_bind (calm_pure _) fun cs => calm_str cs) e1 hcv
          · have hat : At P ad.block (do
                let mut s := ByteArray.empty
                for c in ← loadCells ad n do
                  let .int .u8 n := c | stuck "bytesToString: byte expected"
                  s := s.push (UInt8.ofNat n.toNat)
                pure (.string s) : Sem Value) := at_bind (at_loadCellsFrom ad n 0 #[]) fun cs => (calm_str cs).at
            obtain ⟨hc, hw⟩ := hS _ hm
            obtain ⟨rfl, h'⟩ := hat w u w2 e1 hc
            exact ⟨rfl, fun w' hS' => by rw [hcv]; exact h' w' ((hS' _ hm).2.trans hw.symm)⟩
      all_goals exact calm _ ((never_stuck _).calm) e1 hcv
    obtain ⟨rfl, h'⟩ := key
    exact ⟨u, rfl, rfl, fun w' hS' => by rw [Sem.run_bind, h' w' hS']; rfl⟩

/-! ### The orders -/
/-- no panic -/
def NP : Exit → Act → World → Prop
  | .panic _, _, _ => False
  | .outgrown, _, _ => False
  | _, _, _ => True
theorem NP.noOut (h : LetsOut NP) : False := by
  obtain ⟨a, w, h⟩ := h; exact h
section
variable {ops : Array Oper} {Q : Exit → Act → World → Prop}
theorem wpOp_chg {Q' : Exit → Act → World → Prop} (hp : ∀ c a w, Q (.panic c) a w → Q' (.panic c) a w) (ho : LetsOut Q → LetsOut Q') {i : Nat} {K : Act → World → Prop} {a : Act} {w : World}
    (h : wpOp P ops Q i K a w) : wpOp P ops Q' i K a w := by
  unfold wpOp at *
  split
  · simpa [*] using h
  · rename_i o hi
    simp only [hi] at h
    split
    · rename_i hw
      simp only [hw, if_true] at h
      rcases h with h | ⟨h1, h2⟩
      case inr => exact .inr ⟨h1, ho h2⟩
      refine .inl ?_
      unfold Oper.wp at *
      generalize (execOp a.eval o).run P w = r at *
      cases r with
      | ok n w' =>
        cases n <;> simp only [Oper.upon] at h ⊢ <;> first | exact h | skip
        case enter f args =>
          refine Calls.mono h fun e w'' he => ?_
          cases e with
          | returned u => exact he
          | panicked c => exact hp _ _ _ he
          | outgrown => exact ho he
      | halt x w' =>
        cases x <;> simp only [Oper.upon] at h ⊢
        case panic u => exact hp _ _ _ h
    · rename_i hw; simpa [hw] using h

/-- what an operation makes of the state -/
def Form (o : Oper) (a a' : Act) : Prop := ∃ v, a' = a.put o.dst v ∨ ∃ d, a' = ({ a with defers := d :: a.defers } : Act).put o.dst v
theorem Form.slot {o : Oper} {a a' : Act} (h : Form o a a') (t : Nat) (ht : o.dst ≠ some t) : a'.tmps.getD t undef = a.tmps.getD t undef := by
  have hput : ∀ (a : Act) (v : Value), (a.put o.dst v).tmps.getD t undef = a.tmps.getD t undef := by
    intro a v
    cases hd : o.dst with
    | none => rfl
    | some d =>
      have : d ≠ t := fun e => ht (by rw [hd, e])
      simp [Act.put, Array.getElem?_setIfInBounds_ne this]
  obtain ⟨v, rfl | ⟨d, rfl⟩⟩ := h
  · exact hput _ _
  · exact hput { a with defers := d :: a.defers } _
theorem Form.same {o oi : Oper} {a a' : Act} (h : Form o a a') (hap : o.apart ops oi = true) (hs : ∀ cs b, oi.op ≠ .select cs b) :
    execOp a'.eval oi = execOp a.eval oi ∧ Region.wanted oi (yielded ops a'.tmps) = Region.wanted oi (yielded ops a.tmps) := by
  obtain ⟨g1, _, _⟩ := Oper.apart_spec hap
  obtain ⟨v, rfl | ⟨d, rfl⟩⟩ := h
  · exact ⟨execOp_put oi hs a o.dst v g1, wanted_put oi a o.dst v g1⟩
  · exact ⟨execOp_put oi hs { a with defers := d :: a.defers } o.dst v g1, wanted_put oi { a with defers := d :: a.defers } o.dst v g1⟩
theorem wpOp_form {i : Nat} {o : Oper} (hi : ops[i]? = some o) {K : Act → World → Prop} {a : Act} {w : World} (h : wpOp P ops (NP) i K a w) :
    wpOp P ops (NP) i (fun a' w' => Form o a a' ∧ K a' w') a w := by
  unfold wpOp at *
  simp only [hi] at *
  split
  · rename_i hw
    simp only [hw, if_true] at h
    rcases h with h | ⟨_, hlets⟩
    case inr => exact (NP.noOut hlets).elim
    refine .inl ?_
    unfold Oper.wp at *
    generalize (execOp a.eval o).run P w = r at *
    cases r with
    | ok n w' =>
      cases n <;> simp only [Oper.upon] at h ⊢
      case value u => exact ⟨⟨_, .inl rfl⟩, h⟩
      case skip => exact ⟨⟨_, .inl rfl⟩, h⟩
      case defer d => exact ⟨⟨_, .inr ⟨d, rfl⟩⟩, h⟩
      case enter f args =>
        refine Calls.mono h fun e w'' he => ?_
        cases e with
        | returned u => exact ⟨⟨_, .inl rfl⟩, he⟩
        | panicked c => exact he
        | outgrown => exact he
      case row row args => exact Rows.mono h fun u w'' he => ⟨⟨_, .inl rfl⟩, he⟩
    | halt x w' =>
      cases x <;> simp only [Oper.upon] at h ⊢
      case panic u => exact h
  · rename_i hw
    simp only [hw] at h
    exact ⟨⟨_, .inl rfl⟩, h⟩
theorem wpOp_some {i : Nat} {o : Oper} (hi : ops[i]? = some o) {K : Act → World → Prop} {a : Act} {w : World} (h : wpOp P ops (NP) i K a w) : ∃ a' w', K a' w' := by
  unfold wpOp at h
  simp only [hi] at h
  split at h
  · rcases h with h | ⟨_, h⟩
    · unfold Oper.wp at h
      generalize (execOp a.eval o).run P w = r at h
      cases r with
      | ok n w' =>
        cases n <;> simp only [Oper.upon] at h
        case value u => exact ⟨_, _, h⟩
        case skip => exact ⟨_, _, h⟩
        case defer d => exact ⟨_, _, h⟩
        case enter f args =>
          obtain ⟨e, w'', fr, hr, _⟩ := h []
          cases e with
          | returned v => exact ⟨_, _, hr⟩
          | panicked c => exact (hr : False).elim
          | outgrown => exact (NP.noOut hr).elim
        case row r args =>
          obtain ⟨v, w'', hr, _⟩ := h default []
          exact ⟨_, _, hr⟩
      | halt x w' => cases x <;> simp only [Oper.upon] at h; exact (h : False).elim
    · exact (NP.noOut h).elim
  · exact ⟨_, _, h⟩
theorem wpOp_exists {i : Nat} {o : Oper} (hi : ops[i]? = some o) {K : Act → World → Prop} {a : Act} {w : World} (h : wpOp P ops (NP) i K a w) :
    ∃ a' w', K a' w' ∧ Form o a a' := by
  obtain ⟨a', w', h1, h2⟩ := wpOp_some hi (wpOp_form hi h)
  exact ⟨a', w', h2, h1⟩


/-- the operations of a list, one after the other; S behind each of those that mv names; N in the end -/
def wpF (P : Program) (ops : Array Oper) (S : World → Prop) (mv : Nat → Bool) (N : Act → World → Prop) : List Nat → Act → World → Prop
  | [] => N
  | i :: l => wpOp P ops NP i (fun a' w' => (mv i = true → S w') ∧ wpF P ops S mv N l a' w')
variable {S : World → Prop} {mv : Nat → Bool} {N : Act → World → Prop}
theorem wpF_exists : ∀ (l : List Nat) (a : Act) (w : World), wpF P ops S mv N l a w →
    ∃ a' w', N a' w' ∧ ∀ t, (∀ i ∈ l, ∀ o, ops[i]? = some o → o.dst ≠ some t) → a'.tmps.getD t undef = a.tmps.getD t undef
  | [], a, w, h => ⟨a, w, h, fun _ _ => rfl⟩
  | i :: l, a, w, h => by
    unfold wpF at h
    cases hi : ops[i]? with
    | none =>
      unfold wpOp at h; simp only [hi] at h
      obtain ⟨a', w', h', hs⟩ := wpF_exists l a w h.2
      exact ⟨a', w', h', fun t ht => hs t fun k hk => ht k (by simp [hk])⟩
    | some o =>
      obtain ⟨a1, w1, h1, hs1⟩ := wpOp_exists hi h
      obtain ⟨a', w', h', hs⟩ := wpF_exists l a1 w1 h1.2
      exact ⟨a', w', h', fun t ht => (hs t fun k hk => ht k (by simp [hk])).trans (hs1.slot t (ht i (by simp) o hi))⟩
/-- what an operation that hangs on its operands alone yields is the same wherever it is carried out -/
theorem yields_of {oi : Oper} {a : Act} {w : World} {K : Act → World → Prop} {i : Nat} (hi : ops[i]? = some oi) (hk : calmKind P oi = true) (hp : plainAt oi a.eval = true)
    (h : wpOp P ops (NP) i K a w) : ∃ v, Yields P ops oi v a ∧ K (a.put oi.dst v) w := by
  unfold wpOp at h
  simp only [hi] at h
  split at h
  · rename_i hw
    rcases h with h | ⟨_, h⟩
    · unfold Oper.wp at h
      have hc := calm_exec (P := P) hk hp
      cases hr : (execOp a.eval oi).run P w with
      | ok n w' =>
        obtain ⟨u, rfl, rfl, h'⟩ := hc w n w' hr
        rw [hr] at h
        exact ⟨u, .inl ⟨hw, h'⟩, h⟩
      | halt x w' => rw [hr] at h; cases x <;> simp only [Oper.upon] at h; exact (h : False).elim
    · exact (NP.noOut h).elim
  · rename_i hw
    exact ⟨undef, .inr ⟨by simpa using hw, rfl⟩, h⟩

theorem wpOp_put' {j : Nat} {oi oj : Oper} {v : Value} (hj : ops[j]? = some oj) (hap : oi.apart ops oj = true)
    (hsj : ∀ cs b, oj.op ≠ .select cs b) {K : Act → World → Prop} {a : Act} {w : World}
    (h : wpOp P ops (NP) j (fun a' w' => K (a'.put oi.dst v) w') a w) : wpOp P ops (NP) j K (a.put oi.dst v) w := by
  obtain ⟨h1, h2, h3⟩ := Oper.apart_spec hap
  unfold wpOp at *
  simp only [hj] at *
  rw [wanted_put oj a oi.dst v h1]
  split
  · rename_i hw
    simp only [hw, if_true] at h
    rcases h with h | ⟨_, hlets⟩
    case inr => exact (NP.noOut hlets).elim
    refine .inl ?_
    unfold Oper.wp at *
    rw [execOp_put oj hsj a oi.dst v h1]
    generalize (execOp a.eval oj).run P w = r at *
    cases r with
    | ok n w' =>
      cases n <;> simp only [Oper.upon] at h ⊢
      case value u => rw [Act.put_comm a v u h2]; exact h
      case skip => rw [Act.put_comm a v undef h2]; exact h
      case defer d =>
        rw [Act.put_defers, Act.put_comm _ v undef h2]
        exact h
      case enter f args =>
        refine Calls.mono h fun e w'' he => ?_
        cases e with
        | returned u => show K _ _; rw [Act.put_comm a v u h2]; exact he
        | panicked c => exact he
        | outgrown => exact he
      case row row args => exact Rows.mono h fun u w'' he => by rw [Act.put_comm a v u h2]; exact he
    | halt x w' =>
      cases x <;> simp only [Oper.upon] at h ⊢
      case panic u => exact h
  · rename_i hw
    simp only [hw] at h
    rw [Act.put_comm a v undef h2]
    exact h

theorem apart_comm {x y : Oper} (h : x.apart ops y = true) : y.apart ops x = true := by
  obtain ⟨h1, h2, h3⟩ := Oper.apart_spec h
  unfold Oper.apart
  simp only [Bool.and_eq_true]
  refine ⟨?_, ?_⟩
  · cases hy : y.dst with
    | none => rfl
    | some d =>
      simp only [Bool.and_eq_true, Bool.not_eq_true', bne_iff_ne, ne_eq, List.contains_eq_mem, decide_eq_false_iff_not]
      exact ⟨h3 d hy, fun e => h2 d e hy⟩
  · cases hx : x.dst with
    | none => rfl
    | some d =>
      simp only [Bool.not_eq_true', List.contains_eq_mem, decide_eq_false_iff_not]
      exact h1 d hx

/-- two loads -/
theorem ro_yields {oi : Oper} {a : Act} {w : World} {K : Act → World → Prop} {i : Nat} (hi : ops[i]? = some oi) (hk : roKind P oi = true)
    (h : wpOp P ops (NP) i K a w) : ∃ v, ((Region.wanted oi (yielded ops a.tmps) = true ∧ (execOp a.eval oi).run P w = .ok (.value v) w) ∨ (Region.wanted oi (yielded ops a.tmps) = false ∧ v = undef)) ∧ K (a.put oi.dst v) w := by
  unfold wpOp at h
  simp only [hi] at h
  split at h
  · rename_i hw
    rcases h with h | ⟨_, h⟩
    · unfold Oper.wp at h
      cases hr : (execOp a.eval oi).run P w with
      | ok n w' =>
        obtain ⟨u, rfl, rfl⟩ := ro_exec hk w n w' hr
        rw [hr] at h
        exact ⟨u, .inl ⟨hw, rfl⟩, h⟩
      | halt x w' => rw [hr] at h; cases x <;> simp only [Oper.upon] at h; exact (h : False).elim
    · exact (NP.noOut h).elim
  · rename_i hw
    exact ⟨undef, .inr ⟨by simpa using hw, rfl⟩, h⟩
theorem of_ro_yields {oi : Oper} {a : Act} {w : World} {K : Act → World → Prop} {i : Nat} (hi : ops[i]? = some oi) {v : Value}
    (hy : (Region.wanted oi (yielded ops a.tmps) = true ∧ (execOp a.eval oi).run P w = .ok (.value v) w) ∨ (Region.wanted oi (yielded ops a.tmps) = false ∧ v = undef))
    (h : K (a.put oi.dst v) w) : wpOp P ops (NP) i K a w := by
  unfold wpOp
  simp only [hi]
  rcases hy with ⟨hw, hv⟩ | ⟨hw, rfl⟩
  · simp only [hw, if_true, Oper.wp, hv, Oper.upon]; exact .inl h
  · simp only [hw, Bool.false_eq_true, if_false]; exact h

theorem plainAt_congr {o : Oper} {ρ ρ' : Operand → Value} (h : ∀ x ∈ o.op.operands, ρ x = ρ' x) : plainAt o ρ = plainAt o ρ' := by
  obtain ⟨dst, op, type, pos, after, guard⟩ := o
  cases op <;> simp only [plainAt]
  case binOp => simp only [Op.operands] at h; rw [h _ (by simp), h _ (by simp)]
  case convert => simp only [Op.operands] at h; rw [h _ (by simp)]
  case nilCheck => simp only [Op.operands] at h; rw [h _ (by simp)]
  case call c =>
    obtain ⟨callee, args, ts⟩ := c
    have hargs : ∀ f : Value → Bool, (args.toList.all fun x => f (ρ x)) = args.toList.all fun x => f (ρ' x) := fun f => by
      have : ∀ x ∈ args.toList, f (ρ x) = f (ρ' x) := fun x hx => by rw [h x (by simp at hx; simp [Op.operands, Call.operands, hx])]
      generalize args.toList = l at this
      induction l with
      | nil => rfl
      | cons y l ih => simp only [List.all_cons]; rw [this y (by simp), ih fun x hx => this x (by simp [hx])]
    cases callee <;> try rfl
    rename_i b
    cases b <;> first | rfl | exact hargs _
theorem floatAt_slots {blocks : List Nat} {o : Oper} {a a' : Act} (h : ∀ t ∈ o.looksAt ops, a'.tmps.getD t undef = a.tmps.getD t undef) (hf : FloatAt blocks o a'.eval) : FloatAt blocks o a.eval := by
  unfold FloatAt at *
  split <;> simp only [*] at hf ⊢
  · rename_i t x hx
    have : a'.eval x = a.eval x := by
      cases x with
      | tmp t => exact h t (List.mem_append_left _ (List.mem_filterMap.2 ⟨.tmp t, by simp [hx, Op.operands], rfl⟩))
      | _ => rfl
    rw [← this]; exact hf
  · rename_i s d x hx
    have : a'.eval x = a.eval x := by
      cases x with
      | tmp t => exact h t (List.mem_append_left _ (List.mem_filterMap.2 ⟨.tmp t, by simp [hx, Op.operands], rfl⟩))
      | _ => rfl
    rw [← this]; exact hf
theorem plainAt_slots {o : Oper} {a a' : Act} (h : ∀ t ∈ o.looksAt ops, a'.tmps.getD t undef = a.tmps.getD t undef) : plainAt o a'.eval = plainAt o a.eval :=
  plainAt_congr fun x hx => by
    cases x with
    | tmp t => exact h t (List.mem_append_left _ (List.mem_filterMap.2 ⟨.tmp t, by simpa using hx, rfl⟩))
    | _ => rfl
theorem plainAt_idle {o : Oper} (h : asksPlain o = false) (ρ : Operand → Value) : plainAt o ρ = true := by
  obtain ⟨dst, op, type, pos, after, guard⟩ := o
  cases op <;> simp only [asksPlain, Bool.true_eq_false] at h <;> simp only [plainAt]
  case call c =>
    obtain ⟨callee, args, ts⟩ := c
    cases callee <;> try rfl
    rename_i b
    cases b <;> first | rfl | exact Bool.noConfusion (show true = false from h)



/-- j before i in the text, and i does not wait for j: they can be told apart by nothing (fl: loads from blocks that no operation named by mv changes) -/
def pairOK (P : Program) (fl : List Nat) (mv : Nat → Bool) (j i : Nat) (oj oi : Oper) (ops : Array Oper) : Bool :=
  oj.apart ops oi && (calmKind P oi || calmKind P oj || (roKind P oi && roKind P oj) || (roKind P oi && fl.contains i && mv j) || (roKind P oj && fl.contains j && mv i))

/-- whoever is carried out leaves S as it is, as long as a load that needs it is still to come -/
theorem keepS {i : Nat} {o : Oper} {B B' : Prop} (hi : ops[i]? = some o) (hmv : mv i = true ∨ calmKind P o = true ∨ roKind P o = true ∨ ¬ B') (hB : B' → B) {a : Act} {w : World} (hp : plainAt o a.eval = true) (hS : B → S w) {K : Act → World → Prop}
    (h : wpOp P ops NP i (fun a' w' => (mv i = true → S w') ∧ K a' w') a w) : wpOp P ops NP i (fun a' w' => (B' → S w') ∧ (mv i = true → S w') ∧ K a' w') a w := by
  rcases hmv with hm | hm | hm | hm
  · exact wpOp_mono (fun a' w' h' => ⟨fun _ => h'.1 hm, h'⟩) h
  · obtain ⟨v, hy, h⟩ := yields_of hi hm hp h
    exact hy.wpOp hi ⟨fun b => hS (hB b), h⟩
  · obtain ⟨v, hy, h⟩ := ro_yields hi hm h
    exact of_ro_yields hi hy ⟨fun b => hS (hB b), h⟩
  · exact wpOp_mono (fun a' w' h' => ⟨fun b => absurd b hm, h'⟩) h

/-- a load from one of the blocks yields the same wherever it is carried out -/
theorem float_yields {blocks : List Nat} {w0 : World} {oi : Oper} {a : Act} {w : World} {K : Act → World → Prop} {i : Nat} (hi : ops[i]? = some oi) (hk : roKind P oi = true) (hf : FloatAt blocks oi a.eval) (hS : SameB blocks w0 w)
    (h : wpOp P ops NP i K a w) : ∃ v, YieldsIf P ops (SameB blocks w0) oi v a ∧ K (a.put oi.dst v) w := by
  unfold wpOp at h
  simp only [hi] at h
  split at h
  · rename_i hw
    rcases h with h | ⟨_, h⟩
    · unfold Oper.wp at h
      cases hr : (execOp a.eval oi).run P w with
      | ok n w' =>
        obtain ⟨u, rfl, rfl, h'⟩ := float_exec hk hf hS hr
        rw [hr] at h
        exact ⟨u, .inl ⟨hw, h'⟩, h⟩
      | halt x w' => rw [hr] at h; cases x <;> simp only [Oper.upon] at h; exact (h : False).elim
    · exact (NP.noOut h).elim
  · rename_i hw
    exact ⟨undef, .inr ⟨by simpa using hw, rfl⟩, h⟩

/-- what is asked of the state in the end -/
def Chk (blocks : List Nat) (fl : List Nat) (ops : Array Oper) (a : Act) : Prop :=
  (∀ (k : Nat) (o : Oper), ops[k]? = some o → plainAt o a.eval = true) ∧ ∀ k ∈ fl, ∀ (o : Oper), ops[k]? = some o → FloatAt blocks o a.eval

theorem plain_of {blocks fl : List Nat} (hN : ∀ a w, N a w → Chk blocks fl ops a) {k : Nat} {o : Oper} (hk : ops[k]? = some o) {l : List Nat} {a : Act} {w : World}
    (hl : asksPlain o = true → ∀ k ∈ l, ∀ o', ops[k]? = some o' → ∀ t ∈ o.looksAt ops, o'.dst ≠ some t) (h : wpF P ops S mv N l a w) : plainAt o a.eval = true := by
  cases hq : asksPlain o with
  | false => exact plainAt_idle hq _
  | true =>
    obtain ⟨af, wf, hf, hslots⟩ := wpF_exists l a w h
    rw [← plainAt_slots (ops := ops) fun t ht => hslots t fun k hk o ho => hl hq k hk o ho t ht]
    exact (hN af wf hf).1 k o hk
theorem float_of {blocks fl : List Nat} (hN : ∀ a w, N a w → Chk blocks fl ops a) {k : Nat} {o : Oper} (hk : ops[k]? = some o) (hkf : k ∈ fl) {l : List Nat} {a : Act} {w : World}
    (hl : ∀ k ∈ l, ∀ o', ops[k]? = some o' → ∀ t ∈ o.looksAt ops, o'.dst ≠ some t) (h : wpF P ops S mv N l a w) : FloatAt blocks o a.eval := by
  obtain ⟨af, wf, hf, hslots⟩ := wpF_exists l a w h
  exact floatAt_slots (fun t ht => hslots t fun k hk o ho => hl k hk o ho t ht) ((hN af wf hf).2 k hkf o hk)

/-- an adjacent pair exchanged -/
theorem wpF_swap {blocks fl : List Nat} {w0 : World} (hmv : ∀ (k : Nat) (o : Oper), ops[k]? = some o → (calmKind P o || roKind P o) = true → mv k = false) (hN : ∀ a w, N a w → Chk blocks fl ops a) {i j : Nat} {oi oj : Oper} (hi : ops[i]? = some oi) (hj : ops[j]? = some oj) (hs : Region.noSelect ops = true) (hok : pairOK P fl mv j i oj oi ops = true)
    {l : List Nat} {a : Act} {w : World} (hS : i ∈ fl ∨ j ∈ fl → SameB blocks w0 w)
    (hli : asksPlain oi = true ∨ i ∈ fl → ∀ k ∈ j :: i :: l, ∀ o, ops[k]? = some o → ∀ t ∈ oi.looksAt ops, o.dst ≠ some t)
    (hlj : asksPlain oj = true ∨ j ∈ fl → ∀ k ∈ j :: i :: l, ∀ o, ops[k]? = some o → ∀ t ∈ oj.looksAt ops, o.dst ≠ some t)
    (h : wpF P ops (SameB blocks w0) mv N (j :: i :: l) a w) : wpF P ops (SameB blocks w0) mv N (i :: j :: l) a w := by
  have plI : plainAt oi a.eval = true := plain_of hN hi (fun hq => hli (.inl hq)) h
  have plJ : plainAt oj a.eval = true := plain_of hN hj (fun hq => hlj (.inl hq)) h
  have flI : i ∈ fl → FloatAt blocks oi a.eval := fun hq => float_of hN hi hq (hli (.inr hq)) h
  have flJ : j ∈ fl → FloatAt blocks oj a.eval := fun hq => float_of hN hj hq (hlj (.inr hq)) h
  simp only [pairOK, Bool.and_eq_true, Bool.or_eq_true, List.contains_eq_mem, decide_eq_true_eq] at hok
  obtain ⟨hap, hk⟩ := hok
  have hap' := apart_comm hap
  have hsi := Region.noSelect_spec hs i oi
  have hsj := Region.noSelect_spec hs j oj
  obtain ⟨g1, g2, g3⟩ := Oper.apart_spec hap
  unfold wpF at h ⊢
  unfold wpF at h ⊢
  rcases hk with (((hk | hk) | ⟨hki, hkj⟩) | ⟨⟨hki, hif⟩, hmj⟩) | ⟨⟨hkj, hjf⟩, hmi⟩
  · -- i hangs on its operands alone
    obtain ⟨a1, w1, ⟨_, h1⟩, hs1⟩ := wpOp_exists hj h
    have same1 := hs1.same hap (fun cs b => hsi cs b hi)
    have pl1 : plainAt oi a1.eval = true := by
      rw [plainAt_slots (ops := ops) fun t ht => hs1.slot t fun e => g1 t e ht]; exact plI
    obtain ⟨v, hy1, _⟩ := yields_of hi hk pl1 h1
    have hy : Yields P ops oi v a := hy1.of_same same1.1.symm same1.2.symm
    have hkey : ∀ a' w', Form oj a a' → ∀ K : Act → World → Prop, wpOp P ops NP i K a' w' → K (a'.put oi.dst v) w' := by
      intro a' w' hf' K h'
      have same' := hf'.same hap (fun cs b => hsi cs b hi)
      have pl' : plainAt oi a'.eval = true := by
        rw [plainAt_slots (ops := ops) fun t ht => hf'.slot t fun e => g1 t e ht]; exact plI
      obtain ⟨v', hy', hK⟩ := yields_of hi hk pl' h'
      have : v' = v := by
        have hy'' : Yields P ops oi v' a := hy'.of_same same'.1.symm same'.2.symm
        rcases hy with ⟨hw1, hv1⟩ | ⟨hw1, rfl⟩ <;> rcases hy'' with ⟨hw2, hv2⟩ | ⟨hw2, rfl⟩
        · have := (hv1 w).symm.trans (hv2 w); simp at this; exact this.symm
        · rw [hw1] at hw2; cases hw2
        · rw [hw1] at hw2; cases hw2
        · rfl
      rw [this] at hK
      exact hK
    have hmi : mv i = false := hmv i oi hi (by simp [hk])
    refine hy.wpOp hi ⟨fun hm => (by rw [hmi] at hm; cases hm), ?_⟩
    refine wpOp_put' hj hap' (fun cs b => hsj cs b hj) ?_
    refine wpOp_mono (fun a' w' h' => ?_) (wpOp_form hj h)
    exact ⟨h'.2.1, (hkey a' w' h'.1 _ h'.2.2).2⟩
  · -- j hangs on its operands alone
    obtain ⟨v, hy, h⟩ := yields_of hj hk plJ h
    have := wpOp_put (Q := NP) hi hap (fun cs b => hsj cs b hj) (fun cs b => hsi cs b hi) (fun c a w h => h) hy h.2
    have hmj : mv j = false := hmv j oj hj (by simp [hk])
    exact wpOp_mono (fun a' w' h' => ⟨h'.2.1, h'.1.wpOp hj ⟨fun hm => (by rw [hmj] at hm; cases hm), h'.2.2⟩⟩) this
  · obtain ⟨vj, hyj, h⟩ := ro_yields hj hkj h
    obtain ⟨_, h⟩ := h
    obtain ⟨vi, hyi, h⟩ := ro_yields hi hki h
    rw [execOp_put oi (fun cs b => hsi cs b hi) a oj.dst vj g1, wanted_put oi a oj.dst vj g1] at hyi
    have hmi : mv i = false := hmv i oi hi (by simp [hki])
    have hmj : mv j = false := hmv j oj hj (by simp [hkj])
    refine of_ro_yields hi hyi ⟨fun hm => (by rw [hmi] at hm; cases hm), ?_⟩
    refine of_ro_yields hj (v := vj) ?_ ⟨fun hm => (by rw [hmj] at hm; cases hm), ?_⟩
    · rw [execOp_put oj (fun cs b => hsj cs b hj) a oi.dst vi g3, wanted_put oj a oi.dst vi g3]; exact hyj
    · rw [← Act.put_comm a vj vi g2]; exact h.2
  · -- i is a load that no operation of the region disturbs
    have hS := hS (.inl hif)
    obtain ⟨a1, w1, ⟨hS1, h1⟩, hs1⟩ := wpOp_exists hj h
    have hS1 := hS1 hmj
    have fl' : ∀ a', Form oj a a' → FloatAt blocks oi a'.eval := fun a' hf' =>
      floatAt_slots (ops := ops) (fun t ht => (hf'.slot t fun e => g1 t e ht).symm) (flI hif)
    have same1 := hs1.same hap (fun cs b => hsi cs b hi)
    obtain ⟨v, hy1, _⟩ := float_yields hi hki (fl' a1 hs1) hS1 h1
    have hy : YieldsIf P ops (SameB blocks w0) oi v a := hy1.of_same same1.1.symm same1.2.symm
    refine hy.wpOp hi hS ⟨fun _ => hS, ?_⟩
    refine wpOp_put' hj hap' (fun cs b => hsj cs b hj) ?_
    refine wpOp_mono (fun a' w' h' => ?_) (wpOp_form hj h)
    refine ⟨h'.2.1, ?_⟩
    have hS' := h'.2.1 hmj
    have same' := h'.1.same hap (fun cs b => hsi cs b hi)
    obtain ⟨v', hy', hK⟩ := float_yields hi hki (fl' a' h'.1) hS' h'.2.2
    have : v' = v := by
      have hy'' : YieldsIf P ops (SameB blocks w0) oi v' a := hy'.of_same same'.1.symm same'.2.symm
      rcases hy with ⟨hw1, hv1⟩ | ⟨hw1, rfl⟩ <;> rcases hy'' with ⟨hw2, hv2⟩ | ⟨hw2, rfl⟩
      · have := (hv1 w hS).symm.trans (hv2 w hS); simp at this; exact this.symm
      · rw [hw1] at hw2; cases hw2
      · rw [hw1] at hw2; cases hw2
      · rfl
    rw [this] at hK
    exact hK.2
  · -- j is one
    have hS := hS (.inr hjf)
    obtain ⟨v, hy, h⟩ := float_yields hj hkj (flJ hjf) hS h
    have := wpOp_putIf (Q := NP) (S := SameB blocks w0) hi hap (fun cs b => hsj cs b hj) (fun cs b => hsi cs b hi) (fun c a w h => h) hy h.2
    exact wpOp_mono (fun a' w' h' => ⟨h'.2.1, h'.1.wpOp hj (h'.2.1 hmi) ⟨fun _ => h'.2.1 hmi, h'.2.2⟩⟩) this

/-! ### The text's order -/
/-- op i waits (through edges) for op j, by the masks m -/
def waits (m : Array Nat) (i j : Nat) : Bool := (m.getD i 0).testBit j
/-- the masks are right: whoever waits waits through an edge -/
def masksOK (ops : Array Oper) (m : Array Nat) : Bool :=
  (List.range ops.size).all fun i => match ops[i]? with
    | none => true
    | some o => decide (m.getD i 0 < 2 ^ i) && (o.after.all fun e => !Region.binds .any e || decide (e.on < i)) && (List.range i).all fun j => !waits m i j || o.after.any fun e => Region.binds .any e && (e.on == j || waits m e.on j)
def mvOf (P : Program) (tl : List Nat) (ops : Array Oper) (k : Nat) : Bool := !tl.contains k && match ops[k]? with
  | some o => !(calmKind P o || roKind P o)
  | none => false
/-- nobody writes what an operation that asks for plain operands looks at, but whom it waits for -/
def textOK (P : Program) (fl tl : List Nat) (ops : Array Oper) (m : Array Nat) : Bool :=
  (Region.noSelect ops && tl.all fun k => fl.all fun f => waits m k f) && masksOK ops m &&
  (List.range ops.size).all fun i => match ops[i]? with
    | none => true
    | some oi =>
      ((List.range i).all fun j => waits m i j || match ops[j]? with | some oj => pairOK P fl (mvOf P tl ops) j i oj oi ops | none => true) &&
      (!(asksPlain oi || fl.contains i) || (List.range ops.size).all fun k => waits m i k || match ops[k]? with
        | some ok => match ok.dst with | some d => !(oi.looksAt ops).contains d | none => true
        | none => true)
section
variable {m : Array Nat} {fl tl : List Nat}
theorem textOK_parts (h : textOK P fl tl ops m = true) : (Region.noSelect ops = true ∧ ∀ k ∈ tl, ∀ f ∈ fl, waits m k f = true) ∧ masksOK ops m = true ∧ ∀ (i : Nat) (oi : Oper), ops[i]? = some oi →
    (∀ (j : Nat) (oj : Oper), j < i → ops[j]? = some oj → waits m i j = false → pairOK P fl (mvOf P tl ops) j i oj oi ops = true) ∧
    (asksPlain oi = true ∨ i ∈ fl → ∀ (k : Nat) (ok : Oper), ops[k]? = some ok → waits m i k = false → ∀ t ∈ oi.looksAt ops, ok.dst ≠ some t) := by
  unfold textOK at h
  simp only [Bool.and_eq_true] at h
  obtain ⟨⟨h1, h2⟩, h3⟩ := h
  refine ⟨⟨h1.1, fun k hk f hf => List.all_eq_true.1 (List.all_eq_true.1 h1.2 k hk) f hf⟩, h2, fun i oi hi => ?_⟩
  have hlt : i < ops.size := (Array.getElem?_eq_some_iff.1 hi).1
  have h4 := List.all_eq_true.1 h3 i (List.mem_range.2 hlt)
  simp only [hi, Bool.and_eq_true] at h4
  refine ⟨fun j oj hj hoj hw => ?_, fun ha k ok hk hw t ht he => ?_⟩
  · have h5 := List.all_eq_true.1 h4.1 j (List.mem_range.2 hj)
    simpa [hw, hoj] using h5
  · have h5 := h4.2
    have ha' : (asksPlain oi || fl.contains i) = true := by simpa using ha
    simp only [ha', Bool.not_true, Bool.false_or] at h5
    have h6 := List.all_eq_true.1 h5 k (List.mem_range.2 (Array.getElem?_eq_some_iff.1 hk).1)
    simp only [hw, hk, Bool.false_or, he, Bool.not_eq_true', List.contains_eq_mem, decide_eq_false_iff_not] at h6
    exact h6 ht
theorem masksOK_parts (h : masksOK ops m = true) (i : Nat) (o : Oper) (hi : ops[i]? = some o) :
    (∀ j, waits m i j = true → j < i) ∧ (∀ e ∈ o.after, Region.binds .any e = true → e.on < i) ∧
    (∀ j, waits m i j = true → ∃ e ∈ o.after, Region.binds .any e = true ∧ (e.on = j ∨ waits m e.on j = true)) := by
  unfold masksOK at h
  have hlt : i < ops.size := (Array.getElem?_eq_some_iff.1 hi).1
  have h4 := List.all_eq_true.1 h i (List.mem_range.2 hlt)
  simp only [hi, Bool.and_eq_true, decide_eq_true_eq] at h4
  obtain ⟨⟨h1, h2⟩, h3⟩ := h4
  have hw : ∀ j, waits m i j = true → j < i := fun j hj => by
    rcases Nat.lt_or_ge j i with h' | h'
    · exact h'
    · unfold waits at hj
      rw [Nat.testBit_lt_two_pow (Nat.lt_of_lt_of_le h1 (Nat.pow_le_pow_right (by omega) h'))] at hj
      cases hj
  refine ⟨hw, fun e he hb => ?_, fun j hj => ?_⟩
  · have := Array.all_eq_true_iff_forall_mem.1 h2 e he
    simpa [hb] using this
  · have h5 := List.all_eq_true.1 h3 j (List.mem_range.2 (hw j hj))
    simp only [hj, Bool.not_true, Bool.false_or] at h5
    obtain ⟨e, he, hb⟩ := Array.any_eq_true'.1 h5
    simp only [Bool.and_eq_true, Bool.or_eq_true, beq_iff_eq] at hb
    exact ⟨e, he, hb.1, hb.2⟩


theorem bubble {blocks : List Nat} {w0 : World} (hN : ∀ a w, N a w → Chk blocks fl ops a) (ht : textOK P fl tl ops m = true) {i : Nat} {oi : Oper} (hi : ops[i]? = some oi) : ∀ (l1 l2 : List Nat) (a : Act) (w : World),
    (l1 ++ i :: l2).Pairwise (· < ·) → (∀ k ∈ l1 ++ i :: l2, waits m i k = false ∧ k < ops.size) → ((∃ f ∈ fl, f ∈ l1 ++ i :: l2) → SameB blocks w0 w) → wpF P ops (SameB blocks w0) (mvOf P tl ops) N (l1 ++ i :: l2) a w → wpF P ops (SameB blocks w0) (mvOf P tl ops) N (i :: (l1 ++ l2)) a w
  | [], l2, a, w, _, _, _, h => h
  | j :: l1, l2, a, w, hp, hw, hS, h => by
    obtain ⟨⟨hs, htl⟩, hm, hparts⟩ := textOK_parts ht
    have hjn : j < ops.size := (hw j (by simp)).2
    have hj : ops[j]? = some ops[j] := Array.getElem?_eq_getElem hjn
    have hp' := List.pairwise_cons.1 (show (j :: (l1 ++ i :: l2)).Pairwise (· < ·) from hp)
    have hji : j < i := hp'.1 i (by simp)
    have hmv : ∀ (k : Nat) (o : Oper), ops[k]? = some o → (calmKind P o || roKind P o) = true → mvOf P tl ops k = false := fun k o hk ho => by simp [mvOf, hk, ho]
    have hcls : mvOf P tl ops j = true ∨ calmKind P ops[j] = true ∨ roKind P ops[j] = true ∨ ¬ ∃ f ∈ fl, f ∈ l1 ++ i :: l2 := by
      by_cases hc : calmKind P ops[j] = true
      · exact .inr (.inl hc)
      by_cases hr : roKind P ops[j] = true
      · exact .inr (.inr (.inl hr))
      by_cases hjt : j ∈ tl
      · refine .inr (.inr (.inr fun ⟨f, hf, hfl⟩ => ?_))
        have := (masksOK_parts hm j _ hj).1 f (htl j hjt f hf)
        have := hp'.1 f hfl
        omega
      · exact .inl (by simp [mvOf, hj, hjt, hc, hr])
    have hlj : asksPlain ops[j] = true ∨ j ∈ fl → ∀ k ∈ j :: (l1 ++ i :: l2), ∀ (o : Oper), ops[k]? = some o → ∀ t ∈ ops[j].looksAt ops, o.dst ≠ some t := by
      intro ha k hk o ho t ht'
      refine (hparts j _ hj).2 ha k o ho ?_ t ht'
      have hkj : j ≤ k := by
        rcases List.mem_cons.1 hk with rfl | hk
        · omega
        · have := hp'.1 k hk; omega
      cases hwk : waits m j k with
      | false => rfl
      | true => have := (masksOK_parts hm j _ hj).1 k hwk; omega
    have h1 : wpF P ops (SameB blocks w0) (mvOf P tl ops) N (j :: i :: (l1 ++ l2)) a w := by
      have h0 : wpF P ops (SameB blocks w0) (mvOf P tl ops) N (j :: (l1 ++ i :: l2)) a w := h
      have plJ : plainAt ops[j] a.eval = true := plain_of hN hj (fun hq => hlj (.inl hq)) h0
      unfold wpF at h0 ⊢
      exact wpOp_mono (fun a' w' h' => ⟨h'.2.1, bubble hN ht hi l1 l2 a' w' hp'.2 (fun k hk => hw k (by simp at hk ⊢; exact .inr hk)) h'.1 h'.2.2⟩) (keepS hj hcls (fun ⟨f, hf, hfl⟩ => ⟨f, hf, by simp at hfl ⊢; exact .inr hfl⟩) plJ hS h0)
    refine wpF_swap hmv hN hi hj hs ((hparts i oi hi).1 j _ hji hj (hw j (by simp)).1) (fun hor => hS (by rcases hor with h | h <;> exact ⟨_, h, by simp⟩)) ?_ ?_ h1
    · intro ha k hk o ho t ht'
      exact (hparts i oi hi).2 ha k o ho (hw k (by simp at hk ⊢; rcases hk with h | h | h | h <;> simp [h])).1 t ht'
    · intro ha k hk o ho t ht'
      exact hlj ha k (by simp at hk ⊢; rcases hk with h | h | h | h <;> simp [h]) o ho t ht'

/-- those that have not come up yet -/
def left (ops : Array Oper) (listed : Array Bool) : List Nat := (List.range ops.size).filter fun k => !listed.getD k true

theorem waits_listed (hm : masksOK ops m = true) {listed : Array Bool}
    (hc : ∀ k o, ops[k]? = some o → listed.getD k false = true → ∀ e ∈ o.after, Region.binds .any e = true → listed.getD e.on false = true) :
    ∀ (i : Nat) (oi : Oper), ops[i]? = some oi → (∀ e ∈ oi.after, Region.binds .any e = true → listed.getD e.on false = true) → ∀ k, waits m i k = true → listed.getD k false = true := by
  intro i
  induction i using Nat.strongRecOn with
  | _ i ih =>
    intro oi hi hd k hk
    obtain ⟨h1, h2, h3⟩ := masksOK_parts hm i oi hi
    obtain ⟨e, he, hb, hor⟩ := h3 k hk
    rcases hor with rfl | hor
    · exact hd e he hb
    · have hlt := h2 e he hb
      have hn : e.on < ops.size := Nat.lt_trans hlt (Array.getElem?_eq_some_iff.1 hi).1
      exact ih e.on hlt ops[e.on] (Array.getElem?_eq_getElem hn) (hc e.on _ (Array.getElem?_eq_getElem hn) (hd e he hb)) k hor


theorem wpAny_of_text {blocks : List Nat} {w0 : World} (hN : ∀ a w, N a w → Chk blocks fl ops a) (hNQ : ∀ a w, N a w → Q .normal a w) (ht : textOK P fl tl ops m = true) : ∀ (fuel : Nat) (listed : Array Bool) (a : Act) (w : World), listed.size = ops.size → (left ops listed).length ≤ fuel →
    (∀ k o, ops[k]? = some o → listed.getD k false = true → ∀ e ∈ o.after, Region.binds .any e = true → listed.getD e.on false = true) → ((∃ f ∈ fl, f ∈ left ops listed) → SameB blocks w0 w) →
    wpF P ops (SameB blocks w0) (mvOf P tl ops) N (left ops listed) a w → wpAny P .any ops Q fuel listed a w := by
  obtain ⟨⟨hs, htl⟩, hm, hparts⟩ := textOK_parts ht
  have hsorted : ∀ listed, (left ops listed).Pairwise (· < ·) := fun listed => (List.pairwise_lt_range).filter _
  have hmem : ∀ listed k, k ∈ left ops listed ↔ k < ops.size ∧ listed.getD k true = false := fun listed k => by simp [left]
  have hempty : ∀ listed : Array Bool, listed.size = ops.size → Region.ready .any ops listed = [] → left ops listed = [] := by
    intro listed hsz hr
    cases hl : left ops listed with
    | nil => rfl
    | cons k r =>
      exfalso
      have hk := (hmem listed k).1 (by rw [hl]; simp)
      have : k ∈ Region.ready .any ops listed := by
        refine mem_ready.2 ⟨hk.2, ops[k], Array.getElem?_eq_getElem hk.1, fun e he hb => ?_⟩
        have hlt := (masksOK_parts hm k _ (Array.getElem?_eq_getElem hk.1)).2.1 e he hb
        cases hd : listed.getD e.on false with
        | true => rfl
        | false =>
          exfalso
          have hn : e.on < listed.size := by omega
          have : e.on ∈ left ops listed := (hmem listed _).2 ⟨by omega, by simpa [hn] using hd⟩
          have hso := hsorted listed
          rw [hl] at this hso
          rcases List.mem_cons.1 this with h | h
          · omega
          · have := (List.pairwise_cons.1 hso).1 _ h; omega
      rw [hr] at this; cases this
  intro fuel
  induction fuel with
  | zero =>
    intro listed a w hsz hlen hc hS h
    have hl : left ops listed = [] := List.length_eq_zero_iff.1 (by omega)
    rw [hl] at h
    refine ⟨?_, hNQ _ _ h⟩
    cases hr : Region.ready .any ops listed with
    | nil => rfl
    | cons k r =>
      have := mem_ready.1 (show k ∈ Region.ready .any ops listed by rw [hr]; simp)
      obtain ⟨h0, o, ho, _⟩ := this
      have : k ∈ left ops listed := (hmem listed k).2 ⟨(Array.getElem?_eq_some_iff.1 ho).1, h0⟩
      rw [hl] at this; cases this
  | succ fuel ih =>
    intro listed a w hsz hlen hc hS h
    refine ⟨fun hr => ?_, fun i hir => ?_⟩
    · rw [hempty listed hsz hr] at h; exact hNQ _ _ h
    · obtain ⟨hun, oi, hi, hd⟩ := mem_ready.1 hir
      have hin : i < ops.size := (Array.getElem?_eq_some_iff.1 hi).1
      have himem : i ∈ left ops listed := (hmem listed i).2 ⟨hin, hun⟩
      obtain ⟨l1, l2, hl⟩ := List.append_of_mem himem
      have hso := hsorted listed
      have hnw : ∀ k ∈ l1 ++ i :: l2, waits m i k = false ∧ k < ops.size := fun k hk => by
        rw [← hl] at hk
        have hk' := (hmem listed k).1 hk
        refine ⟨?_, hk'.1⟩
        cases hw : waits m i k with
        | false => rfl
        | true =>
          have := waits_listed hm hc i oi hi hd k hw
          have hks : k < listed.size := by omega
          have h2 := hk'.2
          simp [hks] at this h2
          rw [this] at h2; cases h2
      have hb := bubble (w0 := w0) hN ht hi l1 l2 a w (hl ▸ hso) hnw (hl ▸ hS) (hl ▸ h)
      have hcls : mvOf P tl ops i = true ∨ calmKind P oi = true ∨ roKind P oi = true ∨ ¬ ∃ f ∈ fl, f ∈ l1 ++ l2 := by
        by_cases hc' : calmKind P oi = true
        · exact .inr (.inl hc')
        by_cases hr : roKind P oi = true
        · exact .inr (.inr (.inl hr))
        by_cases hjt : i ∈ tl
        · refine .inr (.inr (.inr fun ⟨f, hf, hfl⟩ => ?_))
          have h1 := htl i hjt f hf
          have h2 := (hnw f (by simp at hfl ⊢; rcases hfl with h | h <;> simp [h])).1
          rw [h1] at h2; cases h2
        · exact .inl (by simp [mvOf, hi, hjt, hc', hr])
      have plI : plainAt oi a.eval = true := plain_of hN hi (fun hq k hk o ho t ht' => (hparts i oi hi).2 (.inl hq) k o ho (hnw k (by simp at hk ⊢; rcases hk with h | h | h <;> simp [h])).1 t ht') hb
      unfold wpF at hb
      have hb := keepS (B := ∃ f ∈ fl, f ∈ left ops listed) hi hcls (fun ⟨f, hf, hfl⟩ => ⟨f, hf, by rw [hl]; simp at hfl ⊢; rcases hfl with h | h <;> simp [h]⟩) plI hS hb
      refine wpOp_chg (fun c a w h => (h : False).elim) (fun h => (NP.noOut h).elim) (wpOp_mono (fun a' w' h' => ih (listed.setIfInBounds i true) a' w' (by simpa using hsz) ?_ ?_ ?_ ?_) hb)
      all_goals
        have hleft : left ops (listed.setIfInBounds i true) = l1 ++ l2 := by
          have e1 : left ops (listed.setIfInBounds i true) = (left ops listed).filter (fun k => k != i) := by
            unfold left
            rw [List.filter_filter]
            apply List.filter_congr
            intro k hk
            by_cases hki : k = i
            · subst hki
              have : k < listed.size := by omega
              simp [this]
            · rw [getD_set_ne true (Ne.symm hki)]
              simp [hki]
          rw [e1, hl, List.filter_append, List.filter_cons]
          rw [hl] at hso
          have hp := List.pairwise_append.1 hso
          have f1 : l1.filter (fun k => k != i) = l1 := List.filter_eq_self.2 fun k hk => by have := hp.2.2 k hk i (by simp); simp; omega
          have f2 : l2.filter (fun k => k != i) = l2 := List.filter_eq_self.2 fun k hk => by have := (List.pairwise_cons.1 hp.2.1).1 k hk; simp; omega
          rw [f1, f2]; simp
      · rw [hleft]; rw [hl] at hlen; simp at hlen ⊢; omega
      · intro k o ho hk e he hb'
        by_cases hki : k = i
        · subst hki
          rw [ho] at hi; cases hi
          exact getD_set_true (hd e he hb')
        · rw [getD_set_ne false (Ne.symm hki)] at hk
          exact getD_set_true (hc k o ho hk e he hb')
      · rw [hleft]; exact h'.1
      · rw [hleft]; exact h'.2.2
end
end
end Go.Txt
/- A region that draws its order may be walked in the order of its text: the two rules. -/
namespace Go.Txt
open Go
variable {P : Program} {ops : Array Oper} {Q : Exit → Act → World → Prop}

theorem wpF_append {S : World → Prop} {mv : Nat → Bool} {N : Act → World → Prop} : ∀ (l1 l2 : List Nat), wpF P ops S mv N (l1 ++ l2) = wpF P ops S mv (wpF P ops S mv N l2) l1
  | [], _ => rfl
  | i :: l1, l2 => by funext a w; rw [List.cons_append]; unfold wpF; rw [wpF_append l1 l2]

/-- the post of a part of a region: S, and then the rest -/
def SegPost (S : World → Prop) (N : Act → World → Prop) (Q : Exit → Act → World → Prop) : Exit → Act → World → Prop
  | .normal, a, w => S w ∧ N a w
  | .panic _, _, _ => False
  | .outgrown, _, _ => False
  | e, a, w => Q e a w
theorem SegPost.mk {S : World → Prop} {N : Act → World → Prop} {Q : Exit → Act → World → Prop} {a : Act} {w : World} (h : S w) (h' : N a w) : SegPost S N Q .normal a w := ⟨h, h'⟩

def nonMover (P : Program) (o : Oper) : Bool := calmKind P o || roKind P o

theorem seg_F {tl : List Nat} {S : World → Prop} {N N' : Act → World → Prop} (hN : ∀ a w, N a w → N' a w) : ∀ (s : List Oper) (k : Nat) (a : Act) (w : World), (∀ j, j < s.length → ops[k + j]? = s[j]?) → (s.dropLast.all (nonMover P)) = true →
    wpList P ops (SegPost S N Q) s a w → wpF P ops S (mvOf P tl ops) N' (List.range' k s.length) a w
  | [], _, _, _, _, _, h => hN _ _ h.2
  | o :: s, k, a, w, hs, hm, h => by
    have hk : ops[k]? = some o := by simpa using hs 0 (by simp)
    rw [List.length_cons, List.range'_succ]
    unfold wpF
    have h1 : wpOp P ops (SegPost S N Q) k (wpList P ops (SegPost S N Q) s) a w := by
      unfold wpOp; simp only [hk]; exact h
    refine wpOp_chg (fun c a w h => (h : False)) (fun ⟨a, w, h⟩ => (h : False).elim) (wpOp_mono (fun a' w' h' => ⟨fun hmv => ?_, ?_⟩) h1)
    · cases s with
      | nil => exact h'.1
      | cons o' s =>
        exfalso
        have : nonMover P o = true := by simp [List.dropLast] at hm; exact hm.1
        simp only [mvOf, hk] at hmv
        simp only [nonMover] at this
        rw [this] at hmv; simp at hmv
    · refine seg_F hN s (k + 1) a' w' (fun j hj => ?_) ?_ h'
      · have := hs (j + 1) (by simp; omega)
        simpa [Nat.add_assoc, Nat.add_comm 1 j] using this
      · cases s with
        | nil => rfl
        | cons o' s => simp [List.dropLast] at hm ⊢; exact hm.2

def LoadsIn (blocks : List Nat) (l : List Oper) (a : Act) : List Nat → Prop
  | [] => True
  | k :: r => (match l[k]? with | some o => FloatAt blocks o a.eval | none => True) ∧ LoadsIn blocks l a r
theorem LoadsIn.get {blocks : List Nat} {l : List Oper} {a : Act} : ∀ (fl : List Nat), LoadsIn blocks l a fl → ∀ k ∈ fl, ∀ (o : Oper), l[k]? = some o → FloatAt blocks o a.eval
  | [], _, k, hk, _, _ => by cases hk
  | j :: r, h, k, hk, o, ho => by
    rcases List.mem_cons.1 hk with rfl | hk
    · have := h.1; rw [ho] at this; exact this
    · exact LoadsIn.get r h.2 k hk o ho

/-- the post of a region: the operands that must be plain are plain in the end; no panic -/
def DrawPost (blocks : List Nat) (fl : List Nat) (l : List Oper) (Q : Exit → Act → World → Prop) : Exit → Act → World → Prop
  | .normal, a, w => ((l.all fun o => plainAt o a.eval) = true ∧ LoadsIn blocks l a fl) ∧ Q .normal a w
  | .panic _, _, _ => False
  | .outgrown, _, _ => False
  | e, a, w => Q e a w
theorem DrawPost.mk {blocks fl : List Nat} {l : List Oper} {a : Act} {w : World} (h : (l.all fun o => plainAt o a.eval) = true) (h1 : LoadsIn blocks l a fl) (h' : Q .normal a w) : DrawPost blocks fl l Q .normal a w := ⟨⟨h, h1⟩, h'⟩
theorem DrawPost.mk0 {blocks : List Nat} {l : List Oper} {a : Act} {w : World} (h : (l.all fun o => plainAt o a.eval) = true) (h' : Q .normal a w) : DrawPost blocks [] l Q .normal a w := ⟨⟨h, trivial⟩, h'⟩

/-- the region cut behind its first c operations, and so on; S behind each part -/
def wpCut (P : Program) (blocks fl : List Nat) (w0 : World) (l : List Oper) (Q : Exit → Act → World → Prop) : List Oper → List Nat → Act → World → Prop
  | rest, [], a, w => wpList P l.toArray (DrawPost blocks fl l Q) rest a w
  | rest, c :: cs, a, w => wpList P l.toArray (SegPost (SameB blocks w0) (wpCut P blocks fl w0 l Q (rest.drop c) cs) Q) (rest.take c) a w
/-- each part but the last has no operation that changes memory but at its end; those of the last part are in tl -/
def cutOK (P : Program) (tl : List Nat) : List Oper → List Nat → Nat → Bool
  | rest, [], k => rest.zipIdx.all fun (o, j) => nonMover P o || tl.contains (k + j)
  | rest, c :: cs, k => decide (c ≤ rest.length) && (rest.take c).dropLast.all (nonMover P) && cutOK P tl (rest.drop c) cs (k + c)

theorem tail_F {blocks fl tl : List Nat} {S : World → Prop} : ∀ (s : List Oper) (k : Nat) (a : Act) (w : World) (l : List Oper), (∀ j, j < s.length → l.toArray[k + j]? = s[j]?) → (∀ (j : Nat) (o : Oper), s[j]? = some o → nonMover P o = true ∨ k + j ∈ tl) →
    wpList P l.toArray (DrawPost blocks fl l Q) s a w → wpF P l.toArray S (mvOf P tl l.toArray) (fun a w => ((l.all fun o => plainAt o a.eval) = true ∧ LoadsIn blocks l a fl) ∧ Q .normal a w) (List.range' k s.length) a w
  | [], _, _, _, _, _, _, h => h
  | o :: s, k, a, w, l, hs, hm, h => by
    have hk : l.toArray[k]? = some o := by simpa using hs 0 (by simp)
    rw [List.length_cons, List.range'_succ]
    unfold wpF
    have h1 : wpOp P l.toArray (DrawPost blocks fl l Q) k (wpList P l.toArray (DrawPost blocks fl l Q) s) a w := by
      unfold wpOp; simp only [hk]; exact h
    refine wpOp_chg (fun c a w h => (h : False)) (fun ⟨a, w, h⟩ => (h : False).elim) (wpOp_mono (fun a' w' h' => ⟨fun hmv => ?_, ?_⟩) h1)
    · exfalso
      simp only [mvOf, hk] at hmv
      rcases hm 0 o (by simp) with h | h
      · simp only [nonMover] at h
        rw [h] at hmv; simp at hmv
      · simp at h; simp [h] at hmv
    · refine tail_F s (k + 1) a' w' l (fun j hj => ?_) (fun j o' ho' => ?_) h'
      · have := hs (j + 1) (by simp; omega)
        simpa [Nat.add_assoc, Nat.add_comm 1 j] using this
      · have := hm (j + 1) o' (by simpa using ho')
        simpa [Nat.add_assoc, Nat.add_comm 1 j] using this

theorem cut_F {blocks fl tl : List Nat} {w0 : World} {l : List Oper} : ∀ (cs : List Nat) (rest : List Oper) (k : Nat) (a : Act) (w : World), l.drop k = rest → cutOK P tl rest cs k = true →
    wpCut P blocks fl w0 l Q rest cs a w → wpF P l.toArray (SameB blocks w0) (mvOf P tl l.toArray) (fun a w => ((l.all fun o => plainAt o a.eval) = true ∧ LoadsIn blocks l a fl) ∧ Q .normal a w) (List.range' k rest.length) a w
  | [], rest, k, a, w, hd, hc, h => by
    refine tail_F rest k a w l (fun j hj => ?_) (fun j o ho => ?_) h
    · rw [← hd]; simp
    · unfold cutOK at hc
      have := List.all_eq_true.1 hc (o, j) (by rw [List.mem_iff_getElem?]; exact ⟨j, by simp [List.getElem?_zipIdx, ho]⟩)
      simpa using this
  | c :: cs, rest, k, a, w, hd, hc, h => by
    simp only [cutOK, Bool.and_eq_true, decide_eq_true_eq] at hc
    obtain ⟨⟨hcl, hs⟩, hr⟩ := hc
    have e : rest.length = c + (rest.drop c).length := by simp; omega
    rw [e, ← List.range'_append_1, wpF_append]
    have e2 : (rest.take c).length = c := by simp; omega
    have := seg_F (P := P) (tl := tl) (Q := Q) (ops := l.toArray) (S := SameB blocks w0) (fun a w h => cut_F cs (rest.drop c) (k + c) a w (by rw [← hd]; simp) hr h) (rest.take c) k a w (fun j hj => by rw [e2] at hj; rw [← hd]; simp [hj]) hs h
    rw [e2] at this
    exact this

theorem cut_any (cs blocks fl tl : List Nat) {l : List Oper} {a : Act} {w : World} (ht : textOK P fl tl l.toArray (Region.before l.toArray) = true) (hc : cutOK P tl l cs 0 = true)
    (hB : ∀ b ∈ blocks, ∃ c e f, w.heap[b]? = some (.cells c e f))
    (h : wpCut P blocks fl w.drew l Q l cs a w.drew) : wpAny P .any l.toArray Q l.toArray.size (Array.replicate l.toArray.size false) a { w with drawn := w.drawn + 1 } := by
  have hS : SameB blocks w.drew w.drew := fun b hb => ⟨hB b hb, rfl⟩
  refine wpAny_of_text (blocks := blocks) (fl := fl) (tl := tl) (w0 := w.drew) (N := fun a w => ((l.all fun o => plainAt o a.eval) = true ∧ LoadsIn blocks l a fl) ∧ Q .normal a w)
    (fun a w h => ⟨fun k o hk => List.all_eq_true.1 h.1.1 o (by simpa using Array.mem_of_getElem? hk), fun k hk o ho => LoadsIn.get fl h.1.2 k hk o (by simpa using ho)⟩) (fun a w h => h.2) ht _ _ _ _ (by simp) (Nat.le_trans (List.length_filter_le _ _) (by simp)) (fun k o ho hk => ?_) (fun _ => hS) ?_
  · exfalso
    rcases Nat.lt_or_ge k l.length with h' | h' <;> simp [h'] at hk
  · have e : left l.toArray (Array.replicate l.toArray.size false) = List.range' 0 l.length := by
      unfold left
      rw [← List.range_eq_range']
      refine List.filter_eq_self.2 fun k hk => ?_
      have := List.mem_range.1 hk
      simp at this
      simp [this]
    rw [e]
    exact cut_F cs l 0 a w.drew rfl hc h
/-- **A region that draws its order, walked in the order of its text, cut where S is to be shown.** cs: the lengths of the parts; blocks: the blocks that the loads fl read, which nobody changes before they have come up; tl: the operations of the last part that change memory. -/
theorem wp_cut (cs blocks fl tl : List Nat) {id : Nat} {l : List Oper} {a : Act} {w : World} (hm : P.follows .mixedOrders = true) (ht : textOK P fl tl l.toArray (Region.before l.toArray) = true) (hc : cutOK P tl l cs 0 = true)
    (hB : ∀ b ∈ blocks, ∃ c e f, w.heap[b]? = some (.cells c e f))
    (h : wpCut P blocks fl w.drew l Q l cs a w.drew) : (Code.region id l.toArray true).wp P Q a w := wp_region_any hm (cut_any cs blocks fl tl ht hc hB h)
/-- .. where no load floats -/
theorem txt_any {l : List Oper} {a : Act} {w : World} (ht : textOK P [] (List.range l.length) l.toArray (Region.before l.toArray) = true)
    (h : wpList P l.toArray (DrawPost [] [] l Q) l a w.drew) : wpAny P .any l.toArray Q l.toArray.size (Array.replicate l.toArray.size false) a { w with drawn := w.drawn + 1 } :=
  cut_any [] [] [] (List.range l.length) ht (List.all_eq_true.2 fun ⟨o, j⟩ hj => by
    have := List.mem_iff_getElem?.1 hj
    obtain ⟨i, hi⟩ := this
    simp [List.getElem?_zipIdx] at hi
    obtain ⟨o', ho', rfl, rfl⟩ := hi
    have := (List.getElem?_eq_some_iff.1 ho').1
    simp [this]) (fun b hb => by cases hb) h
theorem wp_txt {id : Nat} {l : List Oper} {a : Act} {w : World} (hm : P.follows .mixedOrders = true) (ht : textOK P [] (List.range l.length) l.toArray (Region.before l.toArray) = true)
    (h : wpList P l.toArray (DrawPost [] [] l Q) l a w.drew) : (Code.region id l.toArray true).wp P Q a w := wp_region_any hm (txt_any ht h)

theorem cells_of {w : World} {b o : Nat} {v : Value} (h : w.cell? ⟨b, o, none⟩ = some v) : ∃ c e f, w.heap[b]? = some (.cells c e f) := by
  unfold World.cell? at h
  split at h
  · exact ⟨_, _, _, ‹_›⟩
  · cases h
end Go.Txt
/- Small facts, no program in sight. -/
namespace Go.Bs
open Go Go.RowKit

theorem bcell {B : Nat} {W w1 : World} (hb : Below B W w1) : (∀ b o, b < B → w1.cell? ⟨b, o, none⟩ = W.cell? ⟨b, o, none⟩) ∧ (∀ b o, b < B → w1.frozen? ⟨b, o, none⟩ = W.frozen? ⟨b, o, none⟩) :=
  ⟨fun b o h => hb.cell (p := ⟨b, o, none⟩) h, fun b o h => hb.frozen (p := ⟨b, o, none⟩) h⟩
theorem bcellN {B N : Nat} {W w1 : World} (hb : Below B W w1) (h : B = N) : (∀ b o, b < N → w1.cell? ⟨b, o, none⟩ = W.cell? ⟨b, o, none⟩) ∧ (∀ b o, b < N → w1.frozen? ⟨b, o, none⟩ = W.frozen? ⟨b, o, none⟩) :=
  h ▸ bcell hb
theorem ret_bool {a b : Bool} (h : a = b) : Ending.returned (.bool a) = .returned (.bool b) := by rw [h]
theorem ret_int {k : IntKind} {a b : Int} (h : a = b) : Ending.returned (.int k a) = .returned (.int k b) := by rw [h]
theorem val_bool {a b : Bool} (h : a = b) : Value.bool a = .bool b := by rw [h]
theorem val_int {k : IntKind} {a b : Int} (h : a = b) : Value.int k a = .int k b := by rw [h]

theorem flat_length {α : Type} {k : Nat} (enc : α → List Value) (hk : ∀ x, (enc x).length = k) : ∀ l : List α, (l.flatMap enc).length = l.length * k
  | [] => by simp
  | x :: l => by simp [flat_length enc hk l, hk, Nat.add_mul]; omega
theorem flat_get {α : Type} {k : Nat} (enc : α → List Value) (hk : ∀ x, (enc x).length = k) : ∀ (l : List α) (i j : Nat) (x : α), l[i]? = some x → j < k → (l.flatMap enc)[i * k + j]? = (enc x)[j]?
  | [], i, j, x, h, _ => by simp at h
  | y :: l, 0, j, x, h, hj => by
    simp at h; subst h
    simp only [List.flatMap_cons, Nat.zero_mul, Nat.zero_add]
    rw [List.getElem?_append_left (by rw [hk]; exact hj)]
  | y :: l, i + 1, j, x, h, hj => by
    simp only [List.flatMap_cons]
    rw [List.getElem?_append_right (by rw [hk, Nat.add_mul]; omega), hk]
    have : (i + 1) * k + j - k = i * k + j := by rw [Nat.add_mul]; omega
    rw [this]
    exact flat_get enc hk l i j x (by simpa using h) hj
/-- the cells of an owned row -/
theorem own_cell {w : World} {base e size : Nat} {v : Value} {n : Nat} {xs : List Value} (h : w.ownsRow base e size v n xs) {g cap : Nat} (hv : v = .slice (some ⟨g, 0, none⟩) n cap) {j : Nat} {u : Value} (hj : xs[j]? = some u) : w.cell? ⟨g, j, none⟩ = some u := by
  have := h.cells (g := g) (by rw [hv]; rfl) j u hj
  have e : (⟨g, 0, none⟩ : Addr).add j = ⟨g, j, none⟩ := by unfold Addr.add; split <;> simp_all
  rw [e] at this; exact this
theorem own_cases {w : World} {base e size : Nat} {v : Value} {n : Nat} {xs : List Value} (h : w.ownsRow base e size v n xs) : (v = .slice none 0 0 ∧ n = 0 ∧ xs = []) ∨ ∃ g cap, v = .slice (some ⟨g, 0, none⟩) n cap ∧ base ≤ g ∧ g < w.heap.size ∧ n ≤ cap := by
  obtain ⟨h1, h2⟩ := h
  rcases h2 with ⟨rfl, rfl⟩ | ⟨g, cap, cur, rfl, hb, hg, hn, _⟩
  · exact .inl ⟨rfl, rfl, by simpa using h1⟩
  · exact .inr ⟨g, cap, rfl, hb, (Array.getElem?_eq_some_iff.1 hg).1, hn⟩
/-- an owned row of a world, seen from a later one that leaves it alone -/
theorem own_below {w w' : World} {base e size B : Nat} {v : Value} {n : Nat} {xs : List Value} (h : w.ownsRow base e size v n xs) (hb : Below B w w') (hB : w.heap.size ≤ B) : w'.ownsRow base e size v n xs := by
  obtain ⟨h1, h2⟩ := h
  refine ⟨h1, ?_⟩
  rcases h2 with h2 | ⟨g, cap, cur, rfl, hg, hh, r⟩
  · exact .inl h2
  · exact .inr ⟨g, cap, cur, rfl, hg, by rw [hb.block g (by have := (Array.getElem?_eq_some_iff.1 hh).1; omega)]; exact hh, r⟩
theorem own_base {w : World} {base base' e size : Nat} {v : Value} {n : Nat} {xs : List Value} (h : w.ownsRow base e size v n xs) (hb : base' ≤ base) : w.ownsRow base' e size v n xs := by
  obtain ⟨h1, h2⟩ := h
  refine ⟨h1, ?_⟩
  rcases h2 with h2 | ⟨g, cap, cur, rfl, hg, r⟩
  · exact .inl h2
  · exact .inr ⟨g, cap, cur, rfl, by omega, r⟩
theorem same_start {blocks : List Nat} {w : World} (h : ∀ b ∈ blocks, ∃ c e f, w.heap[b]? = some (.cells c e f)) : Txt.SameB blocks w.drew w.drew := fun b hb => ⟨h b hb, rfl⟩
theorem same_below {blocks : List Nat} {w0 w1 w2 : World} {N : Nat} (h : Txt.SameB blocks w0 w1) (hb : Below N w1 w2) (hlt : ∀ b ∈ blocks, b < N) : Txt.SameB blocks w0 w2 := fun b hbb => by
  obtain ⟨⟨c, e, f, h1⟩, h2⟩ := h b hbb
  have := hb.block b (hlt b hbb)
  exact ⟨⟨c, e, f, this.trans h1⟩, this.trans h2⟩
end Go.Bs
/- Laws on append and copy into a row of the call's own, for slices of elements of any size. No program in sight. -/
namespace Go.Ml
open Go Go.RowKit Go.Bs
variable {P : Program} (w : World)

/-- append of a row, whatever the two slice types' numbers are -/
theorem run_append_own2 (base : Nat) (t t2 ty e : TypeId) (i : TypeInfo) (z : Value) (size bytes : Nat) (ht : P.underlying t = some (.slice e)) (ht2 : P.underlying t2 = some (.slice e)) (hi : P.info? e = some i) (hz : i.zero = some z)
    (hsize : i.size = size) (hby : i.bytes = bytes) (hzs : z.cells.size = size)
    (v : Value) (n : Nat) (xs : List Value) (hown : w.ownsRow base e size v n xs)
    (a : Option Addr) (m c : Nat) (news : List Value) (hl : news.length = m * size) (hnews : 0 < m → ∃ ad, a = some ad ∧ ∀ j u, news[j]? = some u → w.cell? (ad.add j) = some u) (h1 : ∀ u ∈ news, u.oneCell' = true)
    (h63 : n + m ≤ maxLen) (hbytes : (n + m) * bytes ≤ 140737488355328) (hbase : base ≤ w.heap.size) :
    ∃ v' w', (Builtin.append_ #[t, t2] ty #[v, .slice a m c]).run P w = .ok v' w' ∧ w'.ownsRow base e size v' (n + m) (xs ++ news) ∧ w.grownBy w' v.ownBlock ∧ (v'.ownBlock = v.ownBlock ∨ v'.ownBlock = some w.heap.size) := by
  subst hsize
  subst hby
  have hsmall : n + m ≤ 9223372036854775807 := by simp only [maxLen] at h63; omega
  have hlen : (xs ++ news).length = (n + m) * i.size := by rw [List.length_append, hown.1, hl, Nat.add_mul]
  have hf : ∀ w1 : World, (∀ b, w1.cell? b = w.cell? b) → (Builtin.firstCells i.size m (.slice a m c)).run P w1 = .ok news.toArray w1 := by
    intro w1 hw1
    by_cases hm : 0 < m
    · obtain ⟨ad, rfl, hc⟩ := hnews hm
      exact run_firstCells_some (P := P) w1 i.size m ad m c news hl (fun j u h => by rw [hw1]; exact hc j u h)
    · have hm0 : m = 0 := by omega
      subst hm0
      have : news = [] := List.eq_nil_of_length_eq_zero (by simpa using hl)
      subst this
      cases a <;> simp [Builtin.firstCells, loadCells, loadCellsFrom]
  have grown : ∀ (old : Nat), old < n + m → ∀ (row : Option Nat),
      (w.drew.alloc (.cells (xs.toArray ++ news.toArray ++ Builtin.zeroCells z.cells (grownCap w (n + m) old e - (n + m))) e)).ownsRow base e i.size
        (.slice (some ⟨w.heap.size, 0, none⟩) (n + m) (grownCap w (n + m) old e)) (n + m) (xs ++ news) ∧
      w.grownBy (w.drew.alloc (.cells (xs.toArray ++ news.toArray ++ Builtin.zeroCells z.cells (grownCap w (n + m) old e - (n + m))) e)) row := by
    intro old ho row
    have hge := grownCap_ge w (n + m) old e
    have hcm : grownCap w (n + m) old e ≤ maxLen := grownCap_le_maxLen w (n + m) old e h63
    refine ⟨⟨hlen, .inr ⟨w.heap.size, _, _, rfl, hbase, heap_alloc_new w.drew _, hge, hcm, ?_, ?_⟩⟩, ⟨rfl, rfl, rfl, by simp, fun k hk _ => Below.heap_alloc w.drew _ k hk⟩⟩
    · simp only [Array.size_append, List.size_toArray, size_zeroCells, hzs, hown.1, hl, ← Nat.add_mul]
      congr 1
      omega
    · simp only [Array.toList_append, List.append_assoc]
      rw [← List.append_assoc, ← hlen]
      exact List.take_left
  rcases hown.2 with ⟨rfl, rfl⟩ | ⟨g, cap, cur, rfl, hbg, hg, hnc, hcm, hcs, htake⟩
  · have hx : xs = [] := List.eq_nil_of_length_eq_zero (by simpa using hown.1)
    subst hx
    by_cases hm : m = 0
    · subst hm
      have hn : news = [] := List.eq_nil_of_length_eq_zero (by simpa using hl)
      subst hn
      refine ⟨.slice none 0 0, w, ?_, World.ownsRow_nil w base e i.size, ⟨rfl, rfl, rfl, Nat.le_refl _, fun _ _ _ => rfl⟩, .inl rfl⟩
      have := hf w (fun _ => rfl)
      simp [Builtin.append_, run_underlying ht, run_underlying ht2, sizeOf, typeInfo, hi, Builtin.lenOf, this]
    · have h63' : ¬ (9223372036854775807 < (m : Int)) := by omega
      have h48' : ¬ (281474976710656 < Builtin.nextslicecap m 0 * i.bytes) := by
        rw [nextslicecap_zero (by omega)]; simp only [Nat.zero_add] at hbytes; omega
      have hfd := hf w.drew (fun _ => by simp)
      have hr : (Builtin.append_ #[t, t2] ty #[.slice none 0 0, .slice a m c]).run P w =
          .ok (.slice (some ⟨w.heap.size, 0, none⟩) m (grownCap w m 0 e)) (w.drew.alloc (.cells (news.toArray ++ Builtin.zeroCells z.cells (grownCap w m 0 e - m)) e)) := by
        simp [Builtin.append_, run_underlying ht, run_underlying ht2, sizeOf, typeInfo, zeroValue, hi, hz, Builtin.lenOf, hm, h63', h48', Question.forced, run_firstCells_none, hfd, newRow, grownCap]
      have hgr := grown 0 (by omega) (Value.ownBlock (.slice none 0 0))
      simp only [Nat.zero_add, List.nil_append, Array.empty_append] at hgr ⊢
      exact ⟨_, _, hr, hgr.1, hgr.2, .inr rfl⟩
  · by_cases hroom : n + m ≤ cap
    · have hfit : n * i.size + news.length ≤ cur.size := by rw [hl, hcs, ← Nat.add_mul]; exact Nat.mul_le_mul_right _ hroom
      have hst := run_storeCells_at P g (n * i.size) e news 0 cur w hg (by simpa using hfit) h1
      simp only [Nat.add_zero] at hst
      have hfw := hf w (fun _ => rfl)
      have hr : (Builtin.append_ #[t, t2] ty #[.slice (some ⟨g, 0, none⟩) n cap, .slice a m c]).run P w =
          .ok (.slice (some ⟨g, 0, none⟩) (n + m) cap) (w.setRow g (cur.toList.take (n * i.size) ++ news ++ cur.toList.drop (n * i.size + news.length)).toArray) := by
        simp [Builtin.append_, run_underlying ht, run_underlying ht2, sizeOf, typeInfo, hi, Builtin.lenOf, hroom, hfw, Addr.add_lit, hst]
      refine ⟨_, _, hr, ⟨hlen, .inr ⟨g, cap, _, rfl, hbg, setRow_heap w g cur _ e _ hg, hroom, hcm, ?_, ?_⟩⟩, ⟨rfl, rfl, rfl, by simp, fun k _ hk => setRow_other w g k _ (fun e => hk (by simp [Value.ownBlock, e]))⟩, .inl rfl⟩
      · simp only [List.size_toArray, List.length_append, List.length_take, List.length_drop, Array.length_toList]
        omega
      · rw [htake, ← hlen]
        exact List.take_left
    · have holds : ∀ j u, xs[j]? = some u → w.cell? ((⟨g, 0, none⟩ : Addr).add j) = some u := hown.cells (g := g) rfl
      have hn : ¬ (n + m ≤ cap) := by omega
      have h63' : ¬ (9223372036854775807 < ((n : Int) + (m : Int))) := by omega
      have h48' : ¬ (281474976710656 < Builtin.nextslicecap (n + m) cap * i.bytes) := by
        have := growslice_fits (need := n + m) (old := cap) (bytes := i.bytes) (by omega) hbytes
        omega
      have hfd := hf w.drew (fun _ => by simp)
      have hfo := run_firstCells_some (P := P) w.drew i.size n ⟨g, 0, none⟩ n cap xs hown.1 (by simpa using holds)
      have hr : (Builtin.append_ #[t, t2] ty #[.slice (some ⟨g, 0, none⟩) n cap, .slice a m c]).run P w =
          .ok (.slice (some ⟨w.heap.size, 0, none⟩) (n + m) (grownCap w (n + m) cap e))
            (w.drew.alloc (.cells (xs.toArray ++ news.toArray ++ Builtin.zeroCells z.cells (grownCap w (n + m) cap e - (n + m))) e)) := by
        simp [Builtin.append_, run_underlying ht, run_underlying ht2, sizeOf, typeInfo, zeroValue, hi, hz, Builtin.lenOf, hn, h63', h48', Question.forced, hfd, hfo, newRow, grownCap]
        congr 2
        apply Array.ext'
        simp [List.append_assoc]
      have hgr := grown cap (by omega) (Value.ownBlock (.slice (some ⟨g, 0, none⟩) n cap))
      exact ⟨_, _, hr, hgr.1, hgr.2, .inr rfl⟩

theorem wpList_append_own2 {ops : Array Oper} {rest : List Oper} {o : Oper} {a : Act} {Q : Exit → Act → World → Prop} (hgd : o.guard = none) (s x : Operand) (t t2 : TypeId)
    (ho : o.op = .call { callee := .builtin .append, args := #[s, x], argTypes := #[t, t2] })
    (base : Nat) (e : TypeId) (i : TypeInfo) (z : Value) (size bytes : Nat) (ht : P.underlying t = some (.slice e)) (ht2 : P.underlying t2 = some (.slice e)) (hi : P.info? e = some i) (hz : i.zero = some z)
    (hsize : i.size = size) (hby : i.bytes = bytes) (hzs : z.cells.size = size)
    (v : Value) (n : Nat) (xs : List Value) (hs : a.eval s = v) (hown : w.ownsRow base e size v n xs)
    (ad : Option Addr) (m c : Nat) (news : List Value) (hx : a.eval x = .slice ad m c) (hl : news.length = m * size) (hnews : 0 < m → ∃ a', ad = some a' ∧ ∀ j u, news[j]? = some u → w.cell? (a'.add j) = some u) (h1 : ∀ u ∈ news, u.oneCell' = true)
    (h63 : n + m ≤ maxLen) (hbytes : (n + m) * bytes ≤ 140737488355328) (hbase : base ≤ w.heap.size)
    (h : ∀ v' w', w'.ownsRow base e size v' (n + m) (xs ++ news) → w.grownBy w' v.ownBlock → wpList P ops Q rest (a.put o.dst v') w') : wpList P ops Q (o :: rest) a w :=
  wpList_plain hgd fun K hK => by
    obtain ⟨v', w', hr, h2, h3, _⟩ := run_append_own2 (P := P) w base t t2 o.type e i z size bytes ht ht2 hi hz hsize hby hzs v n xs hown ad m c news hl hnews h1 h63 hbytes hbase
    unfold Oper.wp execOp
    simp only [ho, resolve, invoke, builtin, Sem.run_bind, Sem.run_pure, Result.andThen_ok, List.map_toArray, List.map_cons, List.map_nil, hs, hx, hr]
    exact hK _ _ (h v' w' h2 h3)
theorem wpList_append_own3 {ops : Array Oper} {rest : List Oper} {o : Oper} {a : Act} {Q : Exit → Act → World → Prop} (hgd : o.guard = none) (s x : Operand) (t t2 : TypeId)
    (ho : o.op = .call { callee := .builtin .append, args := #[s, x], argTypes := #[t, t2] })
    (base : Nat) (e : TypeId) (i : TypeInfo) (z : Value) (size bytes : Nat) (ht : P.underlying t = some (.slice e)) (ht2 : P.underlying t2 = some (.slice e)) (hi : P.info? e = some i) (hz : i.zero = some z)
    (hsize : i.size = size) (hby : i.bytes = bytes) (hzs : z.cells.size = size)
    (v : Value) (n : Nat) (xs : List Value) (hs : a.eval s = v) (hown : w.ownsRow base e size v n xs)
    (ad : Option Addr) (m c : Nat) (news : List Value) (hx : a.eval x = .slice ad m c) (hl : news.length = m * size) (hnews : 0 < m → ∃ a', ad = some a' ∧ ∀ j u, news[j]? = some u → w.cell? (a'.add j) = some u) (h1 : ∀ u ∈ news, u.oneCell' = true)
    (h63 : n + m ≤ maxLen) (hbytes : (n + m) * bytes ≤ 140737488355328) (hbase : base ≤ w.heap.size)
    (h : ∀ v' w', w'.ownsRow base e size v' (n + m) (xs ++ news) → w.grownBy w' v.ownBlock → (v'.ownBlock = v.ownBlock ∨ v'.ownBlock = some w.heap.size) → wpList P ops Q rest (a.put o.dst v') w') : wpList P ops Q (o :: rest) a w :=
  wpList_plain hgd fun K hK => by
    obtain ⟨v', w', hr, h2, h3, h4⟩ := run_append_own2 (P := P) w base t t2 o.type e i z size bytes ht ht2 hi hz hsize hby hzs v n xs hown ad m c news hl hnews h1 h63 hbytes hbase
    unfold Oper.wp execOp
    simp only [ho, resolve, invoke, builtin, Sem.run_bind, Sem.run_pure, Result.andThen_ok, List.map_toArray, List.map_cons, List.map_nil, hs, hx, hr]
    exact hK _ _ (h v' w' h2 h3 h4)
/-- append of a row where there is no room: a new row -/
theorem run_append_grow (t t2 ty e : TypeId) (i : TypeInfo) (z : Value) (size bytes : Nat) (ht : P.underlying t = some (.slice e)) (ht2 : P.underlying t2 = some (.slice e)) (hi : P.info? e = some i) (hz : i.zero = some z)
    (hsize : i.size = size) (hby : i.bytes = bytes) (hzs : z.cells.size = size)
    (ad : Addr) (n cap : Nat) (xs : List Value) (hxl : xs.length = n * size) (hxs : ∀ j u, xs[j]? = some u → w.cell? (ad.add j) = some u)
    (a : Option Addr) (m c : Nat) (news : List Value) (hl : news.length = m * size) (hnews : 0 < m → ∃ ad, a = some ad ∧ ∀ j u, news[j]? = some u → w.cell? (ad.add j) = some u)
    (hroom : cap < n + m) (h63 : n + m ≤ maxLen) (hbytes : (n + m) * bytes ≤ 140737488355328) (base : Nat) (hbase : base ≤ w.heap.size) :
    ∃ v' w', (Builtin.append_ #[t, t2] ty #[.slice (some ad) n cap, .slice a m c]).run P w = .ok v' w' ∧ w'.ownsRow base e size v' (n + m) (xs ++ news) ∧ w.grownBy w' none ∧ v'.ownBlock = some w.heap.size := by
  subst hsize
  subst hby
  have hlen : (xs ++ news).length = (n + m) * i.size := by rw [List.length_append, hxl, hl, Nat.add_mul]
  have hf : ∀ w1 : World, (∀ b, w1.cell? b = w.cell? b) → (Builtin.firstCells i.size m (.slice a m c)).run P w1 = .ok news.toArray w1 := by
    intro w1 hw1
    by_cases hm : 0 < m
    · obtain ⟨ad, rfl, hc⟩ := hnews hm
      exact run_firstCells_some (P := P) w1 i.size m ad m c news hl (fun j u h => by rw [hw1]; exact hc j u h)
    · have hm0 : m = 0 := by omega
      subst hm0
      have : news = [] := List.eq_nil_of_length_eq_zero (by simpa using hl)
      subst this
      cases a <;> simp [Builtin.firstCells, loadCells, loadCellsFrom]
  have hge := grownCap_ge w (n + m) cap e
  have hcm : grownCap w (n + m) cap e ≤ maxLen := grownCap_le_maxLen w (n + m) cap e h63
  have hn : ¬ (n + m ≤ cap) := by omega
  have h63' : ¬ (9223372036854775807 < ((n : Int) + (m : Int))) := by simp only [maxLen] at h63; omega
  have h48' : ¬ (281474976710656 < Builtin.nextslicecap (n + m) cap * i.bytes) := by
    have := growslice_fits (need := n + m) (old := cap) (bytes := i.bytes) (by omega) hbytes
    omega
  have hfd := hf w.drew (fun _ => by simp)
  have hfo := run_firstCells_some (P := P) w.drew i.size n ad n cap xs hxl (by simpa using hxs)
  have hr : (Builtin.append_ #[t, t2] ty #[.slice (some ad) n cap, .slice a m c]).run P w =
      .ok (.slice (some ⟨w.heap.size, 0, none⟩) (n + m) (grownCap w (n + m) cap e))
        (w.drew.alloc (.cells (xs.toArray ++ news.toArray ++ Builtin.zeroCells z.cells (grownCap w (n + m) cap e - (n + m))) e)) := by
    simp [Builtin.append_, run_underlying ht, run_underlying ht2, sizeOf, typeInfo, zeroValue, hi, hz, Builtin.lenOf, hn, h63', h48', Question.forced, hfd, hfo, newRow, grownCap]
    congr 2
    apply Array.ext'
    simp [List.append_assoc]
  refine ⟨_, _, hr, ⟨hlen, .inr ⟨w.heap.size, _, _, rfl, hbase, heap_alloc_new w.drew _, hge, hcm, ?_, ?_⟩⟩, ⟨rfl, rfl, rfl, by simp, fun k hk _ => Below.heap_alloc w.drew _ k hk⟩, rfl⟩
  · simp only [Array.size_append, List.size_toArray, size_zeroCells, hzs, hxl, hl, ← Nat.add_mul]
    congr 1
    omega
  · simp only [Array.toList_append, List.append_assoc]
    rw [← List.append_assoc, ← hlen]
    exact List.take_left
end Go.Ml
/- Rows of a call's own: a cell written, an empty row built, elements read as cells. No program in sight. -/
namespace Go.Cl
open Go Go.RowKit Go.Bs

theorem flat_cell {α : Type} {k : Nat} (enc : α → List Value) (hk : ∀ x, (enc x).length = k) (h0 : 0 < k) {l : List α} {j : Nat} {u : Value} (h : (l.flatMap enc)[j]? = some u) :
    ∃ x, l[j / k]? = some x ∧ (enc x)[j % k]? = some u ∧ j / k < l.length ∧ j % k < k ∧ j = j / k * k + j % k := by
  have hlt : j < (l.flatMap enc).length := (List.getElem?_eq_some_iff.1 h).1
  rw [flat_length enc hk] at hlt
  have hd : j / k < l.length := (Nat.div_lt_iff_lt_mul h0).2 hlt
  have hm : j % k < k := Nat.mod_lt _ h0
  have he : j = j / k * k + j % k := by rw [Nat.mul_comm]; exact (Nat.div_add_mod j k).symm
  have hx := List.getElem?_eq_getElem hd
  refine ⟨l[j / k], hx, ?_, hd, hm, he⟩
  rw [← flat_get enc hk l (j / k) (j % k) _ hx hm, ← he]
  exact h
theorem flat_set {α : Type} {k : Nat} (enc : α → List Value) (hk : ∀ x, (enc x).length = k) (l : List α) (i j : Nat) (x y : α) (u : Value) (hi : l[i]? = some x) (hj : j < k) (hy : enc y = (enc x).set j u) :
    (l.flatMap enc).set (i * k + j) u = (l.set i y).flatMap enc := by
  induction l generalizing i with
  | nil => simp at hi
  | cons z l ih =>
    cases i with
    | zero =>
      simp at hi; subst hi
      simp only [List.flatMap_cons, List.set_cons_zero, Nat.zero_mul, Nat.zero_add, hy]
      rw [List.set_append_left _ _ (by rw [hk]; exact hj)]
    | succ i =>
      simp only [List.flatMap_cons, List.set_cons_succ]
      rw [List.set_append_right _ _ (by rw [hk, Nat.add_mul]; omega), hk]
      have : (i + 1) * k + j - k = i * k + j := by rw [Nat.add_mul]; omega
      rw [this, ih i (by simpa using hi)]
theorem flat_take {α : Type} {k : Nat} (enc : α → List Value) (hk : ∀ x, (enc x).length = k) : ∀ (l : List α) (i : Nat), (l.flatMap enc).take (i * k) = (l.take i).flatMap enc
  | [], _ => by simp
  | x :: l, 0 => by simp
  | x :: l, i + 1 => by
    simp only [List.flatMap_cons, List.take_succ_cons]
    rw [List.take_append, List.take_of_length_le (by rw [hk, Nat.add_mul]; omega), hk, show (i + 1) * k - k = i * k by rw [Nat.add_mul]; omega, flat_take enc hk l i]
theorem flat_drop {α : Type} {k : Nat} (enc : α → List Value) (hk : ∀ x, (enc x).length = k) : ∀ (l : List α) (i : Nat), (l.flatMap enc).drop (i * k) = (l.drop i).flatMap enc
  | [], _ => by simp
  | x :: l, 0 => by simp
  | x :: l, i + 1 => by
    simp only [List.flatMap_cons, List.drop_succ_cons]
    rw [List.drop_append, List.drop_eq_nil_of_le (by rw [hk, Nat.add_mul]; omega), hk, show (i + 1) * k - k = i * k by rw [Nat.add_mul]; omega, flat_drop enc hk l i, List.nil_append]
theorem drew_heap (w : World) : w.drew.heap = w.heap := rfl
theorem own_drew {w : World} {base e size : Nat} {v : Value} {n : Nat} {xs : List Value} (h : w.ownsRow base e size v n xs) : w.drew.ownsRow base e size v n xs := h
/-- a cell of an owned row written -/
theorem own_set {w : World} {base e size : Nat} {n : Nat} {xs : List Value} {g cap : Nat} (h : w.ownsRow base e size (.slice (some ⟨g, 0, none⟩) n cap) n xs) {j : Nat} {u : Value} (hj : j < xs.length) :
    (w.setCell ⟨g, j, none⟩ u).ownsRow base e size (.slice (some ⟨g, 0, none⟩) n cap) n (xs.set j u) := by
  obtain ⟨h1, h2⟩ := h
  refine ⟨by simpa using h1, ?_⟩
  rcases h2 with ⟨h2, _⟩ | ⟨g', cap', cur, hv, hb, hg, hn, hcm, hcs, ht⟩
  · cases h2
  · cases hv
    refine .inr ⟨g, cap, cur.setIfInBounds j u, rfl, hb, ?_, hn, hcm, by simpa using hcs, ?_⟩
    · simp only [World.setCell]
      rw [Array.getElem?_modify, if_pos rfl, hg]
      rfl
    · rw [Array.toList_setIfInBounds, List.take_set, ht]
theorem own_frozen {w : World} {base e size : Nat} {n : Nat} {xs : List Value} {g cap : Nat} (h : w.ownsRow base e size (.slice (some ⟨g, 0, none⟩) n cap) n xs) (j : Nat) : w.frozen? ⟨g, j, none⟩ = false := by
  obtain ⟨h1, h2⟩ := h
  rcases h2 with ⟨h2, _⟩ | ⟨g', cap', cur, hv, hb, hg, _⟩
  · cases h2
  · cases hv
    simp [World.frozen?, hg]
/-- a row that was built empty -/
theorem own_empty (w : World) (base e size : Nat) (hb : base ≤ w.heap.size) : (w.alloc (.cells #[] e)).ownsRow base e size (.slice (some ⟨w.heap.size, 0, none⟩) 0 0) 0 [] :=
  ⟨by simp, .inr ⟨w.heap.size, 0, #[], rfl, hb, heap_alloc_new w _, Nat.le_refl _, Nat.zero_le _, by simp, by simp⟩⟩
theorem below_set {N : Nat} {w w' : World} (h : Below N w w') {g j : Nat} (hg : N ≤ g) (u : Value) : Below N w (w'.setCell ⟨g, j, none⟩ u) :=
  h.setCell hg u
end Go.Cl
/- Laws on copy into a row that is known whole, on append of a made slice, and on the lists behind an insertion, for elements of any size. No program in sight. -/
namespace Go.In
open Go Go.RowKit Go.Bs
variable {P : Program} {w : World}

theorem grown_setRow (w : World) (g : Nat) (cs : Array Value) : w.grownBy (w.setRow g cs) (some g) :=
  ⟨rfl, rfl, rfl, by simp [World.setRow], fun k _ hk => setRow_other w g k cs (fun e => hk (by rw [e]))⟩

/-- copy into the row g, which is known whole -/
theorem run_copyk (w : World) (dT sT ty : TypeId) (e : TypeId) (size : Nat) (hu : P.underlying dT = some (.slice e)) (hz : (P.info? e).map (·.size) = some size)
    (g off dLen dCap : Nat) (ad : Addr) (sLen sCap : Nat) (cur : Array Value) (t : TypeId) (hg : w.heap[g]? = some (.cells cur t (0, 0))) (cs : List Value) (m : Nat) (hm : Nat.min sLen dLen = m) (hl : cs.length = m * size)
    (hsrc : ∀ j v, cs[j]? = some v → w.cell? (ad.add j) = some v) (hfit : off + cs.length ≤ cur.size) (h1 : ∀ v ∈ cs, v.oneCell' = true) :
    (Builtin.copy_ #[dT, sT] ty #[.slice (some ⟨g, off, none⟩) dLen dCap, .slice (some ad) sLen sCap]).run P w = .ok (goInt m) (w.setRow g (splice cur.toList off cs).toArray) := by
  have hf := run_firstCells_some (P := P) w size m ad sLen sCap cs hl hsrc
  have hst := run_storeCells_at P g off t cs 0 cur w hg (by simpa using hfit) h1
  simp only [Nat.add_zero] at hst
  obtain ⟨i0, hi0, hs0⟩ : ∃ i, P.info? e = some i ∧ i.size = size := by
    cases h : P.info? e with
    | none => rw [h] at hz; cases hz
    | some i => rw [h] at hz; exact ⟨i, rfl, by simpa using hz⟩
  subst hs0
  simp [Builtin.copy_, run_underlying hu, sizeOf, typeInfo, hi0, Builtin.lenOf, hm, hf, hst, splice]

theorem wpList_copyk {ops : Array Oper} {rest : List Oper} {o : Oper} {a : Act} {Q : Exit → Act → World → Prop} (hgd : o.guard = none) (d s : Operand) (dT sT : TypeId)
    (ho : o.op = .call { callee := .builtin .copy, args := #[d, s], argTypes := #[dT, sT] }) (e : TypeId) (size : Nat) (hu : P.underlying dT = some (.slice e)) (hz : (P.info? e).map (·.size) = some size)
    (g off dLen dCap : Nat) (ad : Addr) (sLen sCap : Nat) (hd : a.eval d = .slice (some ⟨g, off, none⟩) dLen dCap) (hs : a.eval s = .slice (some ad) sLen sCap)
    (cur : List Value) (t : TypeId) (hg : w.heap[g]? = some (.cells cur.toArray t (0, 0))) (cs : List Value) (m : Nat) (hm : Nat.min sLen dLen = m) (hl : cs.length = m * size)
    (hsrc : ∀ j v, cs[j]? = some v → w.cell? (ad.add j) = some v) (hfit : off + cs.length ≤ cur.length) (h1 : ∀ v ∈ cs, v.oneCell' = true)
    (h : ∀ w', w'.heap[g]? = some (.cells (splice cur off cs).toArray t (0, 0)) → w.grownBy w' (some g) → w'.heap.size = w.heap.size → wpList P ops Q rest (a.put o.dst (goInt m)) w') : wpList P ops Q (o :: rest) a w :=
  wpList_plain hgd fun K hK => by
    have hr := run_copyk (P := P) w dT sT o.type e size hu hz g off dLen dCap ad sLen sCap cur.toArray t hg cs m hm hl hsrc (by simpa using hfit) h1
    unfold Oper.wp execOp
    simp only [ho, resolve, invoke, builtin, Sem.run_bind, Sem.run_pure, Result.andThen_ok, List.map_toArray, List.map_cons, List.map_nil, hd, hs, hr]
    exact hK _ _ (h _ (setRow_heap w g _ _ t _ hg) (grown_setRow w g _) (by simp [World.setRow]))

/-- append(s, make([]T, k)...) where there is no room: a new row -/
theorem wpList_append_make {ops : Array Oper} {rest : List Oper} {o : Oper} {a : Act} {Q : Exit → Act → World → Prop} (hgd : o.guard = none) (s x : Operand) (t tn : TypeId)
    (ho : o.op = .call { callee := .builtin .append, args := #[s, x], argTypes := #[t, tn] })
    (e : TypeId) (i : TypeInfo) (z : Value) (size bytes : Nat) (kq kn : IntKind) (ht : P.underlying t = some (.slice e)) (htn : P.underlying tn = some (.int kn)) (hi : P.info? e = some i) (hz : i.zero = some z)
    (hsize : i.size = size) (hby : i.bytes = bytes) (hzs : z.cells.size = size) (hs0 : 0 < size)
    (b off n c : Nat) (olds : List Value) (hs : a.eval s = .slice (some ⟨b, off, none⟩) n c) (hol : olds.length = n * size) (hold : ∀ j u, olds[j]? = some u → w.cell? ⟨b, off + j, none⟩ = some u)
    (k : Nat) (kk : Int) (hx : a.eval x = .int kq kk) (hkk : kk = k) (h0 : 0 < k) (hg : c < n + k) (hb : (n + k) * bytes ≤ 140737488355328) (hn63 : n + k ≤ maxLen)
    (h : ∀ w' cap cur, w'.heap[w.heap.size]? = some (.cells (olds ++ cur).toArray e (0, 0)) → n + k ≤ cap → cap ≤ maxLen → (olds ++ cur).length = cap * size → w.grownBy w' none → w.heap.size < w'.heap.size →
      wpList P ops Q rest (a.put o.dst (.slice (some ⟨w.heap.size, 0, none⟩) (n + k) cap)) w') : wpList P ops Q (o :: rest) a w :=
  wpList_plain hgd fun K hK => by
    subst hsize
    subst hby
    subst hkk
    have hf := run_firstCells_some (P := P) w.drew i.size n ⟨b, off, none⟩ n c olds hol (fun j u hj => by rw [Addr.add_lit]; exact hold j u hj)
    have h64 : n + k ≤ 9223372036854775807 := by simp only [maxLen] at hn63; omega
    have hr := Lib.run_append_grow_zeros w t tn o.type e i z kq kn ht htn hi hz (some ⟨b, off, none⟩) n c olds hf k h0 hs0 hg (by omega)
      (by have := Nat.mul_le_mul_right i.bytes (show k ≤ n + k by omega); omega) (growslice_fits hg hb)
    unfold Oper.wp execOp
    simp only [ho, resolve, invoke, builtin, Sem.run_bind, Sem.run_pure, Result.andThen_ok, List.map_toArray, List.map_cons, List.map_nil, hs, hx, hr]
    have hge := grownCap_ge w (n + k) c e
    refine hK _ _ (h _ _ ((Builtin.zeroCells z.cells k).toList ++ (Builtin.zeroCells z.cells (grownCap w (n + k) c e - (n + k))).toList) ?_ hge (grownCap_le_maxLen w (n + k) c e hn63) ?_ ⟨rfl, rfl, rfl, by simp, fun q hq _ => Below.heap_alloc w.drew _ q hq⟩ (by simp))
    · refine (heap_alloc_new w.drew _).trans ?_
      congr 2
      apply Array.ext'
      simp
    · simp only [List.length_append, Array.length_toList, size_zeroCells, hzs, hol]
      rw [← Nat.add_mul, ← Nat.add_mul]
      congr 1
      omega

/-- the row behind the two copies of an insertion in place -/
theorem insert_in_place {cur xs ys : List Value} {iK n K : Nat} (ht : cur.take n = xs) (hx : xs.length = n) (hi : iK ≤ n) (hy : ys.length = K) (hc : n + K ≤ cur.length) :
    (splice (splice cur (iK + K) (xs.drop iK)) iK ys).take (n + K) = xs.take iK ++ ys ++ xs.drop iK ∧ (splice (splice cur (iK + K) (xs.drop iK)) iK ys).length = cur.length := by
  have hl1 : (splice cur (iK + K) (xs.drop iK)).length = cur.length := length_splice _ _ _ (by rw [List.length_drop]; omega)
  refine ⟨?_, by rw [length_splice _ _ _ (by rw [hl1]; omega), hl1]⟩
  have htk : cur.take iK = xs.take iK := by rw [← ht, List.take_take, Nat.min_eq_left hi]
  have h1 : (splice cur (iK + K) (xs.drop iK)).take iK = xs.take iK := by
    unfold splice
    rw [List.take_append_of_le_length (by rw [List.length_take]; omega), List.take_take, Nat.min_eq_left (by omega), htk]
  have h2 : (splice cur (iK + K) (xs.drop iK)).drop (iK + K) = xs.drop iK ++ cur.drop (n + K) := by
    unfold splice
    rw [List.drop_append, List.drop_eq_nil_of_le (by rw [List.length_take]; omega), List.length_take, List.nil_append, Nat.min_eq_left (by omega), Nat.sub_self, List.drop_zero]
    congr 2
    rw [List.length_drop]; omega
  unfold splice at h1 h2 ⊢
  rw [hy, h1, h2, ← List.append_assoc, ← List.append_assoc, List.append_assoc (xs.take iK ++ ys), ← List.append_assoc, List.take_append_of_le_length, List.take_of_length_le]
  · simp; omega
  · simp; omega

/-- the row behind the two copies of an insertion into a new row -/
theorem insert_anew {cur xs ys : List Value} {iK n K : Nat} (hx : xs.length = n) (hi : iK ≤ n) (hy : ys.length = K) (hc : n + K ≤ (xs.take iK ++ cur).length) :
    (splice (splice (xs.take iK ++ cur) iK ys) (iK + K) (xs.drop iK)).take (n + K) = xs.take iK ++ ys ++ xs.drop iK ∧ (splice (splice (xs.take iK ++ cur) iK ys) (iK + K) (xs.drop iK)).length = (xs.take iK ++ cur).length := by
  have htl : (xs.take iK).length = iK := by rw [List.length_take]; omega
  have hl1 : (splice (xs.take iK ++ cur) iK ys).length = (xs.take iK ++ cur).length := length_splice _ _ _ (by omega)
  refine ⟨?_, by rw [length_splice _ _ _ (by rw [hl1, List.length_drop]; omega), hl1]⟩
  have h1 : (splice (xs.take iK ++ cur) iK ys).take (iK + K) = xs.take iK ++ ys := by
    unfold splice
    have h0 : (xs.take iK ++ cur).take iK = xs.take iK := List.take_left' htl
    rw [h0, ← List.append_assoc, List.take_append_of_le_length (by rw [List.length_append]; omega), List.take_of_length_le (by rw [List.length_append]; omega)]
  generalize splice (xs.take iK ++ cur) iK ys = B at h1 hl1 ⊢
  unfold splice
  rw [h1, ← List.append_assoc, List.take_append_of_le_length (by simp only [List.length_append, List.length_drop]; omega), List.take_of_length_le (by simp only [List.length_append, List.length_drop]; omega)]
end Go.In
/- Slices as rows of cells, with the blocks that may change; laws for append, copy, make and string conversions on them. No program in sight. -/
namespace Go.Rw
open Go Go.RowKit Go.Bs Go.Cl

/-- w' is w with new blocks; of the old ones only those of F may have changed -/
structure Keep (F : List Nat) (w w' : World) : Prop where
  os : w'.os = w.os
  tape : w'.tape = w.tape
  output : w'.output = w.output
  size : w.heap.size ≤ w'.heap.size
  block : ∀ k, k < w.heap.size → k ∉ F → w'.heap[k]? = w.heap[k]?
theorem Keep.refl (F : List Nat) (w : World) : Keep F w w := ⟨rfl, rfl, rfl, Nat.le_refl _, fun _ _ _ => rfl⟩
theorem Keep.trans {F F' : List Nat} {a b c : World} (h : Keep F a b) (k : Keep F' b c) (hF : ∀ f ∈ F', f ∈ F ∨ a.heap.size ≤ f) : Keep F a c :=
  ⟨k.os.trans h.os, k.tape.trans h.tape, k.output.trans h.output, Nat.le_trans h.size k.size, fun i hi hn => (k.block i (Nat.lt_of_lt_of_le hi h.size) (fun hm => by
    rcases hF i hm with h1 | h1
    · exact hn h1
    · omega)).trans (h.block i hi hn)⟩
theorem Keep.mono {F F' : List Nat} {a b : World} (h : Keep F a b) (hF : ∀ f ∈ F, f ∈ F' ∨ a.heap.size ≤ f) : Keep F' a b :=
  ⟨h.os, h.tape, h.output, h.size, fun i hi hn => h.block i hi fun hm => by
    rcases hF i hm with h1 | h1
    · exact hn h1
    · omega⟩
theorem Keep.of_below {F : List Nat} {B : Nat} {a b : World} (h : Below B a b) (hB : ∀ k, k < a.heap.size → k ∉ F → k < B) : Keep F a b := ⟨h.os, h.tape, h.output, h.size, fun i hi hn => h.block i (hB i hi hn)⟩
theorem Keep.of_below' {F : List Nat} {a b : World} (h : Below a.heap.size a b) : Keep F a b := Keep.of_below h fun _ h _ => h
theorem Keep.of_grown {F : List Nat} {a b : World} {r : Option Nat} (h : a.grownBy b r) (hr : ∀ k, r = some k → k ∈ F ∨ a.heap.size ≤ k) : Keep F a b :=
  ⟨h.os, h.tape, h.output, h.size, fun i hi hn => h.block i hi fun e => by
    rcases hr i e.symm with h1 | h1
    · exact hn h1
    · omega⟩
theorem Keep.below {F : List Nat} {a b : World} (h : Keep F a b) {B : Nat} (hB : B ≤ a.heap.size) (hF : ∀ f ∈ F, B ≤ f) : Below B a b :=
  ⟨h.os, h.tape, h.output, h.size, fun k hk => h.block k (by omega) fun hm => by have := hF k hm; omega⟩
theorem Keep.drew {F : List Nat} {a b : World} (h : Keep F a b) : Keep F a b.drew := ⟨h.os, h.tape, h.output, h.size, h.block⟩
theorem Keep.alloc {F : List Nat} {a b : World} (h : Keep F a b) (o : Obj) : Keep F a (b.alloc o) :=
  h.trans (F' := []) ⟨rfl, rfl, rfl, by simp, fun k hk _ => Below.heap_alloc _ _ _ hk⟩ (fun f hf => by cases hf)
theorem Keep.setCell {F : List Nat} {a b : World} (h : Keep F a b) {p : Addr} (hp : p.block ∈ F ∨ a.heap.size ≤ p.block) (u : Value) : Keep F a (b.setCell p u) :=
  h.trans (F' := [p.block]) ⟨rfl, rfl, rfl, by simp [World.setCell], fun k _ hk => Below.heap_setCell _ _ _ _ (by simpa using hk)⟩ (fun f hf => by rw [List.mem_singleton.1 hf]; exact hp)
theorem Keep.cell {F : List Nat} {w w' : World} (h : Keep F w w') {b o : Nat} (hb : b < w.heap.size) (hF : b ∉ F) : w'.cell? ⟨b, o, none⟩ = w.cell? ⟨b, o, none⟩ := World.cell?_of_block (w := w) (h.block b hb hF)
theorem Keep.froz {F : List Nat} {w w' : World} (h : Keep F w w') {b o : Nat} (hb : b < w.heap.size) (hF : b ∉ F) : w'.frozen? ⟨b, o, none⟩ = w.frozen? ⟨b, o, none⟩ := World.frozen?_of_block (w := w) (h.block b hb hF)

/-- v is a slice of n elements of k cells each; xs are the cells; they lie in a block outside of F -/
def Raw (F : List Nat) (k : Nat) (w : World) (v : Value) (n : Nat) (xs : List Value) : Prop :=
  xs.length = n * k ∧ (∀ u ∈ xs, u.oneCell' = true) ∧ ∃ a cap, v = .slice a n cap ∧ n ≤ cap ∧ cap ≤ maxLen ∧ (0 < n → ∃ b off, a = some ⟨b, off, none⟩ ∧ b < w.heap.size ∧ b ∉ F ∧ ∀ j u, xs[j]? = some u → w.cell? ⟨b, off + j, none⟩ = some u)
variable {F : List Nat} {k : Nat} {w : World} {v : Value} {n : Nat} {xs : List Value}
theorem Raw.len (h : Raw F k w v n xs) : xs.length = n * k := h.1
theorem Raw.one (h : Raw F k w v n xs) : ∀ u ∈ xs, u.oneCell' = true := h.2.1
theorem Raw.cases (h : Raw F k w v n xs) : (n = 0 ∧ xs = [] ∧ ∃ a cap, v = .slice a 0 cap ∧ cap ≤ maxLen) ∨ (0 < n ∧ ∃ b off cap, v = .slice (some ⟨b, off, none⟩) n cap ∧ n ≤ cap ∧ cap ≤ maxLen ∧ b < w.heap.size ∧ b ∉ F ∧ ∀ j u, xs[j]? = some u → w.cell? ⟨b, off + j, none⟩ = some u) := by
  obtain ⟨h1, _, a, cap, rfl, h2, h3, h4⟩ := h
  by_cases h0 : 0 < n
  · obtain ⟨b, off, rfl, h5⟩ := h4 h0
    exact .inr ⟨h0, b, off, cap, rfl, h2, h3, h5⟩
  · obtain rfl : n = 0 := by omega
    exact .inl ⟨rfl, List.eq_nil_of_length_eq_zero (by simpa using h1), a, cap, rfl, h3⟩
theorem Raw.keep {F' G : List Nat} {w' : World} (h : Raw F k w v n xs) (hk : Keep G w w') (hG : ∀ f ∈ G, f ∈ F ∨ w.heap.size ≤ f) (hF : ∀ f ∈ F', f ∈ F ∨ w.heap.size ≤ f) : Raw F' k w' v n xs := by
  obtain ⟨h1, ho, a, cap, rfl, h2, h3, h4⟩ := h
  refine ⟨h1, ho, a, cap, rfl, h2, h3, fun h0 => ?_⟩
  obtain ⟨b, off, rfl, h5, h6, h7⟩ := h4 h0
  have hb : ∀ L : List Nat, (∀ f ∈ L, f ∈ F ∨ w.heap.size ≤ f) → b ∉ L := fun L hL hm => by
    rcases hL b hm with h | h
    · exact h6 h
    · omega
  exact ⟨b, off, rfl, Nat.lt_of_lt_of_le h5 hk.size, hb F' hF, fun j u hj => (hk.cell h5 (hb G hG)).trans (h7 j u hj)⟩
theorem Raw.below {w' : World} (h : Raw F k w v n xs) (hb : Below w.heap.size w w') : Raw F k w' v n xs :=
  h.keep (G := []) (Keep.of_below' hb) (fun f hf => by cases hf) (fun f hf => .inl hf)
theorem Raw.to_nil (h : Raw F k w v n xs) : Raw [] k w v n xs := h.keep (Keep.refl [] w) (fun f hf => by cases hf) (fun f hf => by cases hf)
theorem Raw.fresh {F' : List Nat} (h : Raw F k w v n xs) (hF : ∀ f ∈ F', f ∈ F ∨ w.heap.size ≤ f) : Raw F' k w v n xs := h.keep (Keep.refl F w) (fun f hf => .inl hf) hF
theorem Raw.drew (h : Raw F k w v n xs) : Raw F k w.drew v n xs := h
theorem Raw.alloc (h : Raw F k w v n xs) (o : Obj) : Raw F k (w.alloc o) v n xs := h.below ((Below.refl w.heap.size w).alloc (Nat.le_refl _) o)
theorem Raw.of_own {base e : Nat} (h : w.ownsRow base e k v n xs) (h1 : ∀ u ∈ xs, u.oneCell' = true) (hF : ∀ f ∈ F, f < base) : Raw F k w v n xs := by
  refine ⟨h.1, h1, ?_⟩
  rcases own_cases h with ⟨rfl, rfl, rfl⟩ | ⟨g, cap, rfl, hb, hlt, hc⟩
  · exact ⟨none, 0, rfl, Nat.le_refl _, Nat.zero_le _, fun h0 => absurd h0 (Nat.lt_irrefl _)⟩
  · have hm : cap ≤ maxLen := by
      rcases h.2 with ⟨h', _⟩ | ⟨g', cap', cur, hv, _, _, _, hm, _⟩
      · cases h'
      · cases hv; exact hm
    refine ⟨some ⟨g, 0, none⟩, cap, rfl, hc, hm, fun _ => ⟨g, 0, rfl, hlt, fun hm => by have := hF g hm; omega, fun j u hj => ?_⟩⟩
    rw [Nat.zero_add]; exact own_cell h rfl hj
theorem own_slice {base e : Nat} (h : w.ownsRow base e k v n xs) : ∃ a c, v = .slice a n c := by
  rcases own_cases h with ⟨rfl, rfl, _⟩ | ⟨g, cap, rfl, _⟩
  · exact ⟨_, _, rfl⟩
  · exact ⟨_, _, rfl⟩
theorem Raw.slice (h : Raw F k w v n xs) : ∃ a c, v = .slice a n c := by
  obtain ⟨_, _, a, c, h, _⟩ := h; exact ⟨a, c, h⟩
theorem Raw.empty (F : List Nat) (k : Nat) (w : World) : Raw F k w (.slice none 0 0) 0 [] := ⟨by simp, fun _ h => (by cases h), none, 0, rfl, Nat.le_refl _, Nat.zero_le _, fun h => absurd h (Nat.lt_irrefl _)⟩
theorem Raw.zero (F : List Nat) (k : Nat) (w : World) (a : Option Addr) (cap : Nat) (h : cap ≤ maxLen) : Raw F k w (.slice a 0 cap) 0 [] := ⟨by simp, fun _ h => (by cases h), a, cap, rfl, Nat.zero_le _, h, fun h => absurd h (Nat.lt_irrefl _)⟩
theorem Raw.zero' (F : List Nat) (k : Nat) (w : World) (a : Option Addr) (cap m : Nat) (hm : m = 0) (h : cap ≤ maxLen) : Raw F k w (.slice a m cap) m [] := by subst hm; exact Raw.zero F k w a cap h
/-- a block of cells, looked at as a slice -/
theorem Raw.of_block {g m cap : Nat} {ys : List Value} {t : TypeId} {fz : Nat × Nat} (h : w.heap[g]? = some (.cells ys.toArray t fz)) (hF : g ∉ F) (h1 : ∀ u ∈ ys, u.oneCell' = true) (hl : ys.length = m * k) (hc : m ≤ cap) (hm : cap ≤ maxLen) : Raw F k w (.slice (some ⟨g, 0, none⟩) m cap) m ys := by
  refine ⟨hl, h1, _, cap, rfl, hc, hm, fun _ => ⟨g, 0, rfl, (Array.getElem?_eq_some_iff.1 h).1, hF, fun j u hj => ?_⟩⟩
  rw [Nat.zero_add]; simp [World.cell?, h]; simpa using hj
theorem Raw.take {m cap : Nat} {a : Option Addr} (h : Raw F k w (.slice a n cap) n xs) (hm : m ≤ n) {c : Nat} (hc1 : m ≤ c) (hc2 : c ≤ cap) : Raw F k w (.slice a m c) m (xs.take (m * k)) := by
  obtain ⟨h1, ho, a', cap', hv, h2, h3, h4⟩ := h
  cases hv
  refine ⟨by rw [List.length_take, h1]; exact Nat.min_eq_left (Nat.mul_le_mul_right _ hm), fun u hu => ho u (List.mem_of_mem_take hu), a, c, rfl, hc1, Nat.le_trans hc2 h3, fun h0 => ?_⟩
  obtain ⟨b, off, rfl, h5, h6, h7⟩ := h4 (by omega)
  refine ⟨b, off, rfl, h5, h6, fun j u hj => h7 j u ?_⟩
  rw [List.getElem?_take] at hj
  split at hj
  · exact hj
  · cases hj
/-- the rest behind m elements -/
theorem Raw.drop {m b off cap : Nat} (h : Raw F k w (.slice (some ⟨b, off, none⟩) n cap) n xs) (hm : m < n) {n' c : Nat} (hn : n' = n - m) (hc : c = cap - m) {off' : Nat} (ho : off' = off + m * k) : Raw F k w (.slice (some ⟨b, off', none⟩) n' c) n' (xs.drop (m * k)) := by
  obtain ⟨h1, h1', a', cap', hv, h2, h3, h4⟩ := h
  cases hv
  subst hn; subst hc; subst ho
  obtain ⟨b', off', e, h5, h6, h7⟩ := h4 (by omega)
  cases e
  refine ⟨by rw [List.length_drop, h1, Nat.sub_mul], fun u hu => h1' u (List.mem_of_mem_drop hu), _, _, rfl, by omega, by omega, fun _ => ⟨b, _, rfl, h5, h6, fun j u hj => ?_⟩⟩
  rw [Nat.add_assoc]
  refine h7 (m * k + j) u ?_
  rwa [List.getElem?_drop] at hj
theorem Raw.at {b off cap : Nat} (h : Raw F k w (.slice (some ⟨b, off, none⟩) n cap) n xs) {j : Nat} {u : Value} (hj : xs[j]? = some u) : w.cell? ⟨b, off + j, none⟩ = some u := by
  have hl := h.1
  have hlt : j < xs.length := (List.getElem?_eq_some_iff.1 hj).1
  rcases h.cases with ⟨rfl, rfl, _⟩ | ⟨_, b', off', cap', hv, _, _, _, _, hc⟩
  · cases hj
  · cases hv; exact hc j u hj

/-! bytes -/
def byteV (b : UInt8) : Value := .int .u8 b.toNat
def bytesV (l : List UInt8) : List Value := l.map byteV
theorem bytesV_len (l : List UInt8) : (bytesV l).length = l.length := by simp [bytesV]
theorem bytesV_one (l : List UInt8) : ∀ u ∈ bytesV l, u.oneCell' = true := by
  intro u hu
  obtain ⟨x, _, rfl⟩ := List.mem_map.1 hu
  rfl
theorem bytesV_append (a b : List UInt8) : bytesV (a ++ b) = bytesV a ++ bytesV b := by simp [bytesV]
theorem bytesV_take (a : List UInt8) (n : Nat) : (bytesV a).take n = bytesV (a.take n) := by simp [bytesV]
theorem bytesV_drop (a : List UInt8) (n : Nat) : (bytesV a).drop n = bytesV (a.drop n) := by simp [bytesV]
/-- v reads as the bytes l -/
def Bytes (F : List Nat) (w : World) (v : Value) (l : List UInt8) : Prop := Raw F 1 w v l.length (bytesV l)
theorem Bytes.mk {l : List UInt8} (h : Raw F 1 w v n (bytesV l)) (hn : n = l.length) : Bytes F w v l := by subst hn; exact h
theorem Bytes.row {base e : Nat} {l : List UInt8} (h : w.ownsRow base e 1 v n (bytesV l)) (hn : n = l.length) (hF : ∀ f ∈ F, f < base) : Bytes F w v l := by subst hn; exact Raw.of_own h (bytesV_one l) hF
theorem Bytes.sub {a : Option Addr} {cap lo hi : Nat} {l : List UInt8} (h : Bytes F w (.slice a n cap) l) (h1 : lo ≤ hi) (h2 : hi ≤ l.length) : Raw F 1 w (.slice (a.map fun x => x.add lo) (hi - lo) (cap - lo)) (hi - lo) (bytesV ((l.take hi).drop lo)) := by
  obtain ⟨g1, g2, a', c', hv, g3, g4, g5⟩ := h
  cases hv
  refine ⟨by simp [bytesV]; omega, bytesV_one _, _, _, rfl, by omega, by omega, fun h0 => ?_⟩
  obtain ⟨b, off, rfl, q1, q2, q3⟩ := g5 (by omega)
  refine ⟨b, off + lo, by simp [Addr.add_lit], q1, q2, fun j u hj => ?_⟩
  rw [Nat.add_assoc]
  apply q3
  rw [← bytesV_drop, ← bytesV_take, List.getElem?_drop, List.getElem?_take] at hj
  split at hj
  · exact hj
  · cases hj
def strOf (l : List UInt8) : ByteArray := ⟨l.toArray⟩
theorem strOf_inj {a b : List UInt8} (h : strOf a = strOf b) : a = b := by
  have := congrArg (fun x : ByteArray => x.data.toList) h
  simpa [strOf] using this
theorem strOf_nums (l : List UInt8) : strOfNums (l.map fun b => (b.toNat : Int)) = strOf l := by
  unfold strOfNums strOf
  congr 2
  rw [List.map_map]
  have : ((fun n : Int => UInt8.ofNat n.toNat) ∘ fun b : UInt8 => (b.toNat : Int)) = id := by
    funext b; simp
  rw [this]; simp
theorem run_str {P : Program} {l : List UInt8} (h : Bytes F w v l) (src e dst : TypeId) (hs : P.underlying src = some (.slice e)) (he : P.underlying e = some (.int .u8)) (hd : P.underlying dst = some .string) :
    (convert src dst v).run P w = .ok (.string (strOf l)) w := by
  rcases Raw.cases h with ⟨h0, h1, a, cap, rfl, _⟩ | ⟨h0, b, off, cap, rfl, _, _, _, _, hc⟩
  · have : l = [] := List.eq_nil_of_length_eq_zero h0
    subst this
    cases a with
    | none => exact run_convert_bytes_nil w src e hs he 0 cap dst hd
    | some ad =>
      rw [run_convert_bytes_string w src dst e _ 0 cap hs he hd]
      have := run_bytesToString (P := P) w ad 0 cap [] (by simp [loadCells, loadCellsFrom, Sem.run_pure])
      rw [this]; rfl
  · have := run_convert_bytes_arg (P := P) w src e hs he b off l.length cap (l.map fun b => (b.toNat : Int)) (by simp) (fun i hi => by
      rw [hc i (byteV l[i]) (by simp [bytesV, hi])]
      simp [byteV, List.getD, hi]) dst hd
    rw [this, strOf_nums]

section
variable {P : Program} {ops : Array Oper} {rest : List Oper} {o : Oper} {a : Act} {Q : Exit → Act → World → Prop}
/-- string(b) -/
theorem wpList_str {l : List UInt8} (src e dst : TypeId) (hs : P.underlying src = some (.slice e)) (he : P.underlying e = some (.int .u8)) (hd : P.underlying dst = some .string)
    (hgd : o.guard = none) (x : Operand) (ho : o.op = .convert src dst x) (hx : a.eval x = v) (h : Bytes F w v l) (hk : wpList P ops Q rest (a.put o.dst (.string (strOf l))) w) : wpList P ops Q (o :: rest) a w :=
  wpList_plain hgd fun K hK => by
    unfold Oper.wp execOp
    simp only [ho, Sem.run_bind, Sem.run_pure, Result.andThen_ok, hx, run_str h src e dst hs he hd]
    exact hK _ _ hk

theorem splice_take {α : Type} {cur xs ys : List α} {N i : Nat} (ht : cur.take N = xs) (h : i + ys.length ≤ N) (hN : N ≤ cur.length) : (splice cur i ys).take N = splice xs i ys := by
  subst ht
  unfold splice
  have e1 : (cur.take i).length = i := by rw [List.length_take]; omega
  have e2 : (cur.take N).take i = cur.take i := by rw [List.take_take, Nat.min_eq_left (by omega)]
  rw [List.take_append, e1, List.take_append, List.take_of_length_le (l := cur.take i) (by omega), List.take_of_length_le (l := ys) (by omega), e2, List.drop_take]
  congr 3
  omega
/-- what is to be known of a slice type: its element's type, size in cells and bytes, zero value -/
structure Elem (P : Program) (t e : TypeId) (k bytes : Nat) (z : Value) : Prop where
  ht : P.underlying t = some (.slice e)
  hi : (P.info? e).map (fun i => (i.zero, i.size, i.bytes)) = some (some z, k, bytes)
  hz : z.cells.size = k
  hb : bytes ≤ 10000
/-- append(s, x...) onto a row of the call's own -/
theorem wpList_append_raw {t e k bytes : Nat} {z : Value} (E : Elem P t e k bytes z) {t2 : TypeId} (ht2 : P.underlying t2 = some (.slice e)) {base : Nat} {G : List Nat} {sv xv : Value} {m : Nat} {news : List Value}
    (hown : w.ownsRow base e k sv n xs) (hx : Raw G k w xv m news) (hgd : o.guard = none) (s x : Operand) (ho : o.op = .call { callee := .builtin .append, args := #[s, x], argTypes := #[t, t2] }) (hs : a.eval s = sv) (hxv : a.eval x = xv)
    (h63 : n + m ≤ maxLen) (hbytes : (n + m) * bytes ≤ 140737488355328) (hbase : base ≤ w.heap.size)
    (h : ∀ v' w', w'.ownsRow base e k v' (n + m) (xs ++ news) → w.grownBy w' sv.ownBlock → wpList P ops Q rest (a.put o.dst v') w') : wpList P ops Q (o :: rest) a w := by
  obtain ⟨i0, hi, hz0, hz1, hz2⟩ := info_parts E.hi
  have hx' := hx
  obtain ⟨h1, h2, ad, cap, rfl, h3, h4, h5⟩ := hx
  exact Ml.wpList_append_own2 w hgd s x t t2 ho base e i0 z k bytes E.ht ht2 hi hz0 hz1 hz2 E.hz sv n xs hs hown ad m cap news hxv h1 (fun h0 => by
    obtain ⟨b, off, rfl, _, _, h7⟩ := h5 h0
    exact ⟨_, rfl, fun j u hj => by rw [Addr.add_lit]; exact h7 j u hj⟩) h2 h63 hbytes hbase h
theorem wpList_app {t e k bytes : Nat} {z : Value} (E : Elem P t e k bytes z) {t2 : TypeId} (ht2 : P.underlying t2 = some (.slice e)) {base : Nat} {G : List Nat} {sv xv : Value} {m : Nat} {news : List Value} {B : Nat} {w0 : World}
    (hown : w.ownsRow base e k sv n xs) (hx : Raw G k w xv m news) (hb : Below B w0 w) (hgd : o.guard = none) (s x : Operand) (ho : o.op = .call { callee := .builtin .append, args := #[s, x], argTypes := #[t, t2] }) (hs : a.eval s = sv) (hxv : a.eval x = xv)
    (hsm : n + m ≤ 10000000) (hB : B ≤ base) (hbase : base ≤ w.heap.size)
    (h : ∀ v' w', w'.ownsRow base e k v' (n + m) (xs ++ news) → Below B w0 w' → w.grownBy w' sv.ownBlock → w.heap.size ≤ w'.heap.size → wpList P ops Q rest (a.put o.dst v') w') : wpList P ops Q (o :: rest) a w :=
  wpList_append_raw E ht2 hown hx hgd s x ho hs hxv (by unfold maxLen; omega) (by have := Nat.mul_le_mul hsm E.hb; omega) hbase fun v' w' h1 h2 => h v' w' h1 (hb.grown h2 (by omega) (fun q hq => by have := (hown.lt q hq).1; omega)) h2 h2.size
/-- .. where other rows are known that the row appended to is not one of -/
theorem wpList_appF {t e k bytes : Nat} {z : Value} (E : Elem P t e k bytes z) {t2 : TypeId} (ht2 : P.underlying t2 = some (.slice e)) {base : Nat} {G : List Nat} {sv xv : Value} {m : Nat} {news : List Value} {B : Nat} {w0 : World}
    (hown : w.ownsRow base e k sv n xs) (hx : Raw G k w xv m news) (hb : Below B w0 w) (hgd : o.guard = none) (s x : Operand) (ho : o.op = .call { callee := .builtin .append, args := #[s, x], argTypes := #[t, t2] }) (hs : a.eval s = sv) (hxv : a.eval x = xv)
    (hsm : n + m ≤ 10000000) (hB : B ≤ base) (hbase : base ≤ w.heap.size)
    (h : ∀ v' w', w'.ownsRow base e k v' (n + m) (xs ++ news) → Below B w0 w' → Keep sv.ownBlock.toList w w' → (∀ f ∈ v'.ownBlock.toList, f ∈ sv.ownBlock.toList ∨ w.heap.size ≤ f) → wpList P ops Q rest (a.put o.dst v') w') : wpList P ops Q (o :: rest) a w := by
  obtain ⟨i0, hi, hz0, hz1, hz2⟩ := info_parts E.hi
  obtain ⟨h1, h2, ad, cap, rfl, h3, h4, h5⟩ := hx
  refine Ml.wpList_append_own3 w hgd s x t t2 ho base e i0 z k bytes E.ht ht2 hi hz0 hz1 hz2 E.hz sv n xs hs hown ad m cap news hxv h1 (fun h0 => by
    obtain ⟨b, off, rfl, _, _, h7⟩ := h5 h0
    exact ⟨_, rfl, fun j u hj => by rw [Addr.add_lit]; exact h7 j u hj⟩) h2 (by unfold maxLen; omega) (by have := Nat.mul_le_mul hsm E.hb; omega) hbase fun v' w' g1 g2 g3 => ?_
  refine h v' w' g1 (hb.grown g2 (by omega) (fun q hq => by have := (hown.lt q hq).1; omega)) (Keep.of_grown g2 (fun k hk => .inl (by simp [hk]))) fun f hf => ?_
  rcases g3 with g3 | g3
  · exact .inl (by rw [← g3]; exact hf)
  · rw [g3] at hf; simp at hf; exact .inr (by omega)
/-- a row of the call's own, or the first n elements of one, with no room behind them -/
def RowF (w : World) (base e k : Nat) (v : Value) (n : Nat) (xs : List Value) : Prop := w.ownsRow base e k v n xs ∨ (∃ r cur, v = .slice (some ⟨r, 0, none⟩) n n ∧ base ≤ r ∧ w.heap[r]? = some (.cells cur e (0, 0)) ∧ n ≤ maxLen ∧ xs.length = n * k ∧ cur.toList.take (n * k) = xs)
theorem RowF.len {base e : Nat} (h : RowF w base e k v n xs) : xs.length = n * k := by
  rcases h with h | ⟨r, cur, _, _, _, _, h, _⟩
  · exact h.1
  · exact h
theorem RowF.slice {base e : Nat} (h : RowF w base e k v n xs) : ∃ a c, v = .slice a n c := by
  rcases h with h | ⟨r, cur, h, _⟩
  · exact own_slice h
  · exact ⟨_, _, h⟩
theorem RowF.row {base e : Nat} (h : RowF w base e k v n xs) : ∀ r, v.ownBlock = some r → base ≤ r ∧ r < w.heap.size := by
  rcases h with h | ⟨r, cur, rfl, h1, h2, _⟩
  · exact h.lt
  · intro q hq; simp [Value.ownBlock] at hq; subst hq; exact ⟨h1, (Array.getElem?_eq_some_iff.1 h2).1⟩
theorem RowF.raw {base e : Nat} (h : RowF w base e k v n xs) (h1 : ∀ u ∈ xs, u.oneCell' = true) (hF : ∀ f ∈ F, v.ownBlock ≠ some f) : Raw F k w v n xs := by
  rcases h with h | ⟨r, cur, rfl, h2, h3, h4, h5, h6⟩
  · have hr := Raw.of_own (F := []) h h1 (fun f hf => by cases hf)
    obtain ⟨a1, a2, a, cap, rfl, a3, a4, a5⟩ := hr
    refine ⟨a1, a2, a, cap, rfl, a3, a4, fun h0 => ?_⟩
    obtain ⟨b, off, rfl, b1, _, b2⟩ := a5 h0
    exact ⟨b, off, rfl, b1, fun hm => hF b hm rfl, b2⟩
  · refine ⟨h5, h1, _, n, rfl, Nat.le_refl _, h4, fun h0 => ⟨r, 0, rfl, (Array.getElem?_eq_some_iff.1 h3).1, fun hm => hF r hm rfl, fun j u hj => ?_⟩⟩
    rw [Nat.zero_add, ← h6, List.getElem?_take] at *
    split at hj
    · simp [World.cell?, h3]; simpa using hj
    · cases hj
theorem RowF.keep {base e : Nat} {G : List Nat} {w' : World} (h : RowF w base e k v n xs) (hk : Keep G w w') (hG : ∀ r, v.ownBlock = some r → r ∉ G) : RowF w' base e k v n xs := by
  rcases h with h | ⟨r, cur, rfl, h2, h3, h4, h5, h6⟩
  · refine .inl ⟨h.1, ?_⟩
    rcases h.2 with h2 | ⟨g, cap, cur, rfl, hb, hg, r⟩
    · exact .inl h2
    · exact .inr ⟨g, cap, cur, rfl, hb, (hk.block g (Array.getElem?_eq_some_iff.1 hg).1 (hG g rfl)).trans hg, r⟩
  · exact .inr ⟨r, cur, rfl, h2, (hk.block r (Array.getElem?_eq_some_iff.1 h3).1 (hG r rfl)).trans h3, h4, h5, h6⟩
theorem RowF.type {base e : Nat} (h : RowF w base e k v n xs) {r : Nat} (hr : v.ownBlock = some r) : ∃ cur, w.heap[r]? = some (.cells cur e (0, 0)) := by
  rcases h with h | ⟨r', cur, rfl, h2, h3, _⟩
  · rcases h.2 with ⟨rfl, _⟩ | ⟨g, cap, cur, rfl, hb, hg, _⟩
    · simp [Value.ownBlock] at hr
    · simp [Value.ownBlock] at hr; subst hr; exact ⟨cur, hg⟩
  · simp [Value.ownBlock] at hr; subst hr; exact ⟨cur, h3⟩
/-- append onto such a row -/
theorem wpList_append_rowF {t e k bytes : Nat} {z : Value} (E : Elem P t e k bytes z) {t2 : TypeId} (ht2 : P.underlying t2 = some (.slice e)) {base : Nat} {G : List Nat} {sv xv : Value} {m : Nat} {news : List Value}
    (hown : RowF w base e k sv n xs) (hx : Raw G k w xv m news) (hgd : o.guard = none) (s x : Operand) (ho : o.op = .call { callee := .builtin .append, args := #[s, x], argTypes := #[t, t2] }) (hs : a.eval s = sv) (hxv : a.eval x = xv)
    (hm : 0 < m) (hsm : n + m ≤ 10000000) (hbase : base ≤ w.heap.size)
    (h : ∀ v' w', w'.ownsRow base e k v' (n + m) (xs ++ news) → Keep sv.ownBlock.toList w w' → (∀ f, v'.ownBlock = some f → sv.ownBlock = some f ∨ w.heap.size ≤ f) → wpList P ops Q rest (a.put o.dst v') w') : wpList P ops Q (o :: rest) a w := by
  obtain ⟨i0, hi, hz0, hz1, hz2⟩ := info_parts E.hi
  obtain ⟨h1, h2, ad, cap, rfl, h3, h4, h5⟩ := hx
  have hnews : 0 < m → ∃ a', ad = some a' ∧ ∀ j u, news[j]? = some u → w.cell? (a'.add j) = some u := fun h0 => by
    obtain ⟨b, off, rfl, _, _, h7⟩ := h5 h0
    exact ⟨_, rfl, fun j u hj => by rw [Addr.add_lit]; exact h7 j u hj⟩
  have h63 : n + m ≤ maxLen := by unfold maxLen; omega
  have hby : (n + m) * bytes ≤ 140737488355328 := by have := Nat.mul_le_mul hsm E.hb; omega
  rcases hown with hown | ⟨r, cur, rfl, g2, g3, g4, g5, g6⟩
  · refine Ml.wpList_append_own3 w hgd s x t t2 ho base e i0 z k bytes E.ht ht2 hi hz0 hz1 hz2 E.hz sv n xs hs hown ad m cap news hxv h1 hnews h2 h63 hby hbase fun v' w' g1 g2 g3 => ?_
    refine h v' w' g1 (Keep.of_grown g2 (fun k hk => .inl (by simp [hk]))) fun f hf => ?_
    rcases g3 with g3 | g3
    · exact .inl (by rw [← g3]; exact hf)
    · rw [g3] at hf; simp at hf; exact .inr (by omega)
  · refine wpList_plain hgd fun K hK => ?_
    obtain ⟨v', w', hr, q1, q2, q3⟩ := Ml.run_append_grow (P := P) w t t2 o.type e i0 z k bytes E.ht ht2 hi hz0 hz1 hz2 E.hz ⟨r, 0, none⟩ n n xs g5 (fun j u hj => by
      rw [Addr.add_lit, Nat.zero_add]
      rw [← g6, List.getElem?_take] at hj
      split at hj
      · simp [World.cell?, g3]; simpa using hj
      · cases hj) ad m cap news h1 hnews (by omega) h63 hby base hbase
    unfold Oper.wp execOp
    simp only [ho, resolve, invoke, builtin, Sem.run_bind, Sem.run_pure, Result.andThen_ok, List.map_toArray, List.map_cons, List.map_nil, hs, hxv, hr]
    exact hK _ _ (h _ _ q1 (Keep.of_grown q2 (fun k hk => by cases hk)) fun f hf => by rw [q3] at hf; simp at hf; exact .inr (by omega))
/-- copy into a known row, at element i -/
theorem wpList_copy_raw {t e k bytes : Nat} {z : Value} (E : Elem P t e k bytes z) {t2 : TypeId} {base : Nat} {G : List Nat} {g cap : Nat} {xv : Value} {m i d : Nat} {news : List Value}
    (hown : w.ownsRow base e k (.slice (some ⟨g, 0, none⟩) n cap) n xs) (hx : Raw G k w xv m news) (hgd : o.guard = none) (s x : Operand) (ho : o.op = .call { callee := .builtin .copy, args := #[s, x], argTypes := #[t, t2] })
    {off dLen dCap : Nat} (hs : a.eval s = .slice (some ⟨g, off, none⟩) dLen dCap) (hxv : a.eval x = xv) (hoff : off = i * k) (hi : i + dLen ≤ n) (hd : Nat.min m dLen = d)
    (h : ∀ w', w'.ownsRow base e k (.slice (some ⟨g, 0, none⟩) n cap) n (splice xs (i * k) (news.take (d * k))) → w.grownBy w' (some g) → w'.heap.size = w.heap.size → wpList P ops Q rest (a.put o.dst (goInt d)) w') : wpList P ops Q (o :: rest) a w := by
  obtain ⟨i0, hi0, hz0, hz1, hz2⟩ := info_parts E.hi
  obtain ⟨h1, h2, ad, c, rfl, h3, h4, h5⟩ := hx
  obtain ⟨hx1, hx2⟩ := hown
  rcases hx2 with ⟨hx2, _⟩ | ⟨g', cap', cur, hv, hb, hg, hn, hcm, hcs, ht⟩
  · cases hx2
  cases hv
  subst hoff
  have hdm : d ≤ m := by rw [← hd]; exact Nat.min_le_left _ _
  have hdl : d ≤ dLen := by rw [← hd]; exact Nat.min_le_right _ _
  have hnl : (news.take (d * k)).length = d * k := by rw [List.length_take, h1]; exact Nat.min_eq_left (Nat.mul_le_mul_right _ hdm)
  have hsz : (P.info? e).map (·.size) = some k := by rw [hi0]; simp [hz1]
  have hik : i * k + d * k ≤ n * k := by rw [← Nat.add_mul]; exact Nat.mul_le_mul_right _ (by omega)
  have hnk : n * k ≤ cap * k := Nat.mul_le_mul_right _ hn
  have hcl : cur.toList.length = cap * k := by simpa using hcs
  have key : ∀ w' : World, w'.heap[g]? = some (.cells (splice cur.toList (i * k) (news.take (d * k))).toArray e (0, 0)) → w'.ownsRow base e k (.slice (some ⟨g, 0, none⟩) n cap) n (splice xs (i * k) (news.take (d * k))) := fun w' hw => by
    refine ⟨by rw [length_splice _ _ _ (by rw [hnl, hx1]; exact hik), hx1], .inr ⟨g, cap, _, rfl, hb, hw, hn, hcm, by simp [length_splice, hnl, hcl, Nat.le_trans hik hnk], ?_⟩⟩
    rw [List.toList_toArray]
    exact splice_take ht (by rw [hnl]; exact hik) (by omega)
  by_cases hd0 : 0 < d
  · obtain ⟨b, off, rfl, _, _, h7⟩ := h5 (by omega)
    exact In.wpList_copyk hgd s x t t2 ho e k E.ht hsz g (i * k) dLen dCap ⟨b, off, none⟩ m c hs hxv cur.toList e (by simpa using hg) (news.take (d * k)) d hd hnl (fun j u hj => by
      rw [Addr.add_lit]
      rw [List.getElem?_take] at hj
      split at hj
      · exact h7 j u hj
      · cases hj) (by rw [hnl, hcl]; omega) (fun u hu => h2 u (List.mem_of_mem_take hu)) (fun w' a1 a2 a3 => h w' (key w' a1) a2 a3)
  · obtain rfl : d = 0 := by omega
    refine wpList_plain hgd fun K hK => ?_
    have hr : (Builtin.copy_ #[t, t2] o.type #[.slice (some ⟨g, i * k, none⟩) dLen dCap, .slice ad m c]).run P w = .ok (goInt 0) w := by
      have hmn : min m dLen = 0 := hd
      cases ad <;> simp [Builtin.copy_, run_underlying E.ht, sizeOf, typeInfo, hi0, Builtin.lenOf, hmn, Builtin.firstCells, loadCells, loadCellsFrom, storeCells]
    unfold Oper.wp execOp
    simp only [ho, resolve, invoke, builtin, Sem.run_bind, Sem.run_pure, Result.andThen_ok, List.map_toArray, List.map_cons, List.map_nil, hs, hxv, hr]
    refine hK _ _ (h w ?_ ⟨rfl, rfl, rfl, Nat.le_refl _, fun _ _ _ => rfl⟩ rfl)
    have := key w (by rw [hg]; simp [splice])
    exact this
/-- make([]T, n) -/
theorem wpList_make {t e k bytes : Nat} {z : Value} (E : Elem P t e k bytes z) (base : Nat) (c : Nat) (hgd : o.guard = none) (x y : Operand) (ho : o.op = .makeSlice t x y) {kx ky : IntKind} {cx cy : Int} (hx : a.eval x = .int kx cx) (hy : a.eval y = .int ky cy) (hcx : cx = c) (hcy : cy = c)
    (hbytes : c * bytes ≤ 140737488355328) (h63 : c ≤ maxLen) (hbase : base ≤ w.heap.size)
    (h : ∀ w', w'.ownsRow base e k (.slice (some ⟨w.heap.size, 0, none⟩) c c) c (madeCells z.cells (c * k)).toList → w.grownBy w' none → w.heap.size < w'.heap.size → wpList P ops Q rest (a.put o.dst (.slice (some ⟨w.heap.size, 0, none⟩) c c)) w') : wpList P ops Q (o :: rest) a w :=
  wpList_plain hgd fun K hK => by
    obtain ⟨i0, hi0, hz0, hz1, hz2⟩ := info_parts E.hi
    subst hcx; subst hcy
    have h63' : (c : Int) ≤ 9223372036854775807 := by simp only [maxLen] at h63; omega
    have hb' : (i0.bytes : Int) * (c : Int) ≤ 281474976710656 := by
      have h : ((i0.bytes * c : Nat) : Int) ≤ 281474976710656 := by rw [hz2, Nat.mul_comm]; omega
      rwa [Int.natCast_mul] at h
    have hr := run_make (P := P) w t e i0 z E.ht hi0 hz0 kx ky c c (by omega) (Int.le_refl _) hb' h63'
    simp only [Int.toNat_natCast, hz1] at hr
    unfold Oper.wp execOp
    simp only [ho, Sem.run_bind, Sem.run_pure, Result.andThen_ok, hx, hy, hr]
    refine hK _ _ (h _ ⟨by simp [size_madeCells], .inr ⟨w.heap.size, c, _, rfl, hbase, heap_alloc_new w _, Nat.le_refl _, h63, size_madeCells _ _, ?_⟩⟩ (World.grownBy_alloc w _ none) (by simp))
    rw [List.take_of_length_le]; simp [size_madeCells]
end
theorem wp_gen {P : Program} {c : Code} {Q : Exit → Act → World → Prop} {a : Act} {w : World} (I : World → Prop) (h : I w) (k : ∀ w', I w' → c.wp P Q a w') : c.wp P Q a w := k w h
theorem wpList_gen {P : Program} {ops : Array Oper} {Q : Exit → Act → World → Prop} {l : List Oper} {a : Act} {w : World} (I : World → Prop) (h : I w) (k : ∀ w', I w' → wpList P ops Q l a w') : wpList P ops Q l a w := k w h
theorem box_at {w : World} {g : Nat} {ys : Array Value} {t : TypeId} {fz : Nat × Nat} (h : w.heap[g]? = some (.cells ys t fz)) {j : Nat} {u : Value} (hj : ys[j]? = some u) : w.cell? ⟨g, j, none⟩ = some u := by simp [World.cell?, h, hj]
theorem box_free {w : World} {g : Nat} {ys : Array Value} {t : TypeId} (h : w.heap[g]? = some (.cells ys t (0, 0))) (j : Nat) : w.frozen? ⟨g, j, none⟩ = false := by simp [World.frozen?, h]
/-- the block that a slice's cells lie in, if it has any -/
theorem Raw.blocks {F : List Nat} {k : Nat} {w : World} {v : Value} {n : Nat} {xs : List Value} (h : Raw F k w v n xs) (hk : 0 < k) : ∃ bl : List Nat, (∀ bl', (∀ b ∈ bl, b ∈ bl') → Txt.InS bl' v) ∧ ∀ b ∈ bl, b ∉ F ∧ ∃ c e f, w.heap[b]? = some (.cells c e f) := by
  have hl := h.len
  rcases h.cases with ⟨h0, h1, a, c, rfl, _⟩ | ⟨h0, b, off, c, rfl, _, _, hb, hF, hc⟩
  · refine ⟨[], fun bl' _ => ?_, fun b hb => by cases hb⟩
    cases a
    · trivial
    · exact .inl rfl
  · have hx : 0 < xs.length := by rw [hl]; exact Nat.mul_pos h0 hk
    exact ⟨[b], fun bl' hs => .inr (hs b (by simp)), fun b' hb' => by
      rw [List.mem_singleton.1 hb']
      exact ⟨hF, Txt.cells_of (hc 0 (xs[0]'hx) (by simp))⟩⟩
theorem same_keep {bs F : List Nat} {w0 w1 w2 : World} (h : Txt.SameB bs w0 w1) (hk : Keep F w1 w2) (hF : ∀ b ∈ bs, b ∉ F) : Txt.SameB bs w0 w2 := fun b hb => by
  obtain ⟨⟨c, e, f, h1⟩, h2⟩ := h b hb
  have e1 : w2.heap[b]? = w1.heap[b]? := hk.block b (Array.getElem?_eq_some_iff.1 h1).1 (hF b hb)
  exact ⟨⟨c, e, f, e1.trans h1⟩, e1.trans h2⟩
theorem same_below' {bs : List Nat} {w0 w1 w2 : World} (h : Txt.SameB bs w0 w1) (hb : Below w1.heap.size w1 w2) : Txt.SameB bs w0 w2 := same_keep h (Keep.of_below' (F := []) hb) (fun b _ hm => by cases hm)
/-- what lies outside of F and G -/
theorem Raw.both {F G : List Nat} {k n : Nat} {w : World} {v : Value} {xs : List Value} (h : Raw F k w v n xs) (h' : Raw G k w v n xs) : Raw (F ++ G) k w v n xs := by
  obtain ⟨h1, h2, a, cap, rfl, h3, h4, h5⟩ := h
  obtain ⟨_, _, a', cap', e, _, _, h5'⟩ := h'
  cases e
  refine ⟨h1, h2, a, cap, rfl, h3, h4, fun h0 => ?_⟩
  obtain ⟨b, off, rfl, q1, q2, q3⟩ := h5 h0
  obtain ⟨b', off', e, _, q2', _⟩ := h5' h0
  cases e
  exact ⟨b, off, rfl, q1, by simp [q2, q2'], q3⟩
theorem own_keep {w w' : World} {base e k n : Nat} {v : Value} {xs : List Value} {G : List Nat} (h : w.ownsRow base e k v n xs) (hk : Keep G w w') (hG : ∀ r, v.ownBlock = some r → r ∉ G) : w'.ownsRow base e k v n xs := by
  refine ⟨h.1, ?_⟩
  rcases h.2 with h2 | ⟨g', cap, cur', hv', hb', hg', rest⟩
  · exact .inl h2
  · exact .inr ⟨g', cap, cur', hv', hb', (hk.block g' (Array.getElem?_eq_some_iff.1 hg').1 (hG g' (by rw [hv']; rfl))).trans hg', rest⟩
end Go.Rw
/- A region within a round of a range over a function (wide fence) may be walked as everywhere. No program in sight. -/
namespace Go.Txt
open Go Go.RowKit
variable {P : Program} {Q : Exit → Act → World → Prop} {n r : Nat} {ops : Array Oper} {a : Act} {w : World}
def noDefer (o : Oper) : Bool := match o.op with | .defer _ => false | _ => true
theorem noDefer_ne {o : Oper} (h : noDefer o = true) : ∀ c, o.op ≠ .defer c := fun c e => by simp [noDefer, e] at h
theorem wpIn_of_wp {o : Oper} {K : Act → World → Prop} (hd : noDefer o = true) (h : o.wp P a w K Q) : o.wpIn (Fence.wide.inRound r) n P a w K Q := by
  refine ⟨fun _ _ => trivial, ?_⟩
  rw [Oper.semAt_eq _ _ _ (noDefer_ne hd)]
  unfold Oper.wp at h
  revert h
  generalize (execOp a.eval o).run P w = res
  intro h
  match res, h with
  | .ok (.value v) w', h => exact h
  | .ok .skip w', h => exact h
  | .ok (.defer d) w', h => exact h
  | .ok (.enter f args) w', h => exact ⟨fun hs => by simp [Fence.wide] at hs, callsIn_wide.2 h⟩
  | .ok (.row row args) w', h =>
    refine ⟨fun hs => by simp [Fence.wide] at hs, fun c cs _ => ?_⟩
    obtain ⟨v, w2, h1, h2⟩ := h c cs
    exact ⟨v, w2, h1, stepsIn_wide.2 h2⟩
  | .halt (.panic v) w', h => exact h
theorem wpListIn_of (hQ : ¬ LetsOut Q) : ∀ (l : List Oper) (a : Act) (w : World), l.all noDefer = true → wpList P ops Q l a w → wpListIn (Fence.wide.inRound r) n P ops Q l a w
  | [], _, _, _, h => h
  | o :: l, a, w, hd, h => by
    simp only [List.all_cons, Bool.and_eq_true] at hd
    unfold wpList at h
    unfold wpListIn
    split
    · rw [if_pos ‹_›] at h
      rcases h with h | h
      · exact Oper.wpIn_mono (fun a w h => wpListIn_of hQ l a w hd.2 h) (wpIn_of_wp hd.1 h)
      · exact absurd h.2 hQ
    · rw [if_neg ‹_›] at h
      exact ⟨fun _ _ => trivial, wpListIn_of hQ l _ _ hd.2 h⟩
theorem wpAnyIn_of (hQ : ¬ LetsOut Q) (hd : ∀ (i : Nat) (o : Oper), ops[i]? = some o → noDefer o = true) {md : Region.Mode} : ∀ (f : Nat) (L : Array Bool) (a : Act) (w : World), wpAny P md ops Q f L a w → wpAnyIn (Fence.wide.inRound r) n P md ops Q f L a w
  | 0, _, _, _, h => h
  | f + 1, L, a, w, h => by
    refine ⟨h.1, fun i hi => ?_⟩
    have := h.2 i hi
    unfold wpOp at this
    unfold wpOpIn
    split
    · rename_i hn; rw [hn] at this
      exact wpAnyIn_of hQ hd f _ _ _ this
    · rename_i o ho; rw [ho] at this
      dsimp only at this
      split
      · rw [if_pos ‹_›] at this
        rcases this with h | h
        · exact Oper.wpIn_mono (fun a w h => wpAnyIn_of hQ hd f _ a w h) (wpIn_of_wp (hd i o ho) h)
        · exact absurd h.2 hQ
      · rw [if_neg ‹_›] at this
        exact ⟨fun _ _ => trivial, wpAnyIn_of hQ hd f _ _ _ this⟩
/-- a region in the order of its text -/
theorem region_round {id : Nat} {l : List Oper} (hQ : ¬ LetsOut Q) (hd : l.all noDefer = true) (h : wpList P l.toArray Q l a w) : (Code.region id l.toArray false).wpIn (Fence.wide.inRound r) n P Q a w :=
  wpIn_region_lit (wpListIn_of hQ l a w hd h)
/-- a region that draws its order, by the order of its text -/
theorem region_round_txt {id : Nat} {l : List Oper} (hQ : ¬ LetsOut Q) (hd : l.all noDefer = true) (hm : P.follows .mixedOrders = true) (ht : textOK P [] (List.range l.length) l.toArray (Region.before l.toArray) = true)
    (h : wpList P l.toArray (DrawPost [] [] l Q) l a w.drew) : (Code.region id l.toArray true).wpIn (Fence.wide.inRound r) n P Q a w := by
  refine wpIn_region_any hm (wpAnyIn_of hQ (fun i o ho => List.all_eq_true.1 hd o (by have := Array.mem_of_getElem? ho; simpa using this)) _ _ _ _ ?_)
  exact txt_any ht h
end Go.Txt
/- Slices of slices, whatever the bounds are: one fact for the walk, one for the row. No program in sight. -/
namespace Go.Rw
open Go Go.RowKit Go.Bs Go.Cl
variable {F : List Nat} {k : Nat} {w : World} {n : Nat} {xs : List Value}
theorem Raw.sliced {a : Option Addr} {cap lo hi m : Nat} (h : Raw F k w (.slice a n cap) n xs) (h1 : lo ≤ hi) (h2 : hi ≤ n) (h3 : hi ≤ m) (h4 : m ≤ cap) :
    Raw F k w (sliced a lo hi m k) (hi - lo) ((xs.take (hi * k)).drop (lo * k)) := by
  obtain ⟨g1, g2, a', c', hv, g3, g4, g5⟩ := h
  cases hv
  have hl : hi * k ≤ xs.length := by rw [g1]; exact Nat.mul_le_mul_right _ h2
  refine ⟨by rw [List.length_drop, List.length_take, Nat.min_eq_left hl, Nat.sub_mul], fun u hu => g2 u (List.mem_of_mem_take (List.mem_of_mem_drop hu)), _, _, rfl, by omega, by omega, fun h0 => ?_⟩
  obtain ⟨b, off, rfl, q1, q2, q3⟩ := g5 (by omega)
  rw [if_neg (by omega)]
  refine ⟨b, off + lo * k, by simp [Addr.add_lit], q1, q2, fun j u hj => ?_⟩
  rw [Nat.add_assoc]
  refine q3 (lo * k + j) u ?_
  rw [List.getElem?_drop, List.getElem?_take] at hj
  split at hj
  · exact hj
  · cases hj
/-- s[lo:] -/
theorem Raw.from {P : Program} {t e : TypeId} {a : Option Addr} {cap : Nat} (h : Raw F k w (.slice a n cap) n xs) (ht : P.underlying t = some (.slice e)) (hsz : (P.info? e).map (·.size) = some k) {lo : Nat} (hlo : lo ≤ n) :
    ∃ a', (∀ wx, (Instr.slice t (.slice a n cap) (some (.int .i64 lo)) none none).run P wx = .ok (.slice a' (n - lo) (cap - lo)) wx) ∧ Raw F k w (.slice a' (n - lo) (cap - lo)) (n - lo) (xs.drop (lo * k)) := by
  have hc : n ≤ cap := by obtain ⟨_, _, _, _, hv, g3, _⟩ := h; cases hv; exact g3
  have hs := Raw.sliced h hlo (Nat.le_refl _) hc (Nat.le_refl _)
  rw [List.take_of_length_le (by rw [h.len]; exact Nat.le_refl _)] at hs
  refine ⟨_, fun wx => ?_, hs⟩
  have hel : P.elem t = e := by simp [Program.elem, ht]
  rw [run_slice_l (P := P) wx t a n cap (by rw [ht, hel]) .i64 lo (by omega) (by omega), hel]
  cases hi : P.info? e with
  | none => simp [hi] at hsz
  | some i => simp [hi] at hsz; simp [sizeOf, typeInfo, hi, hsz, Go.sliced]
/-- .. where s has an address -/
theorem Raw.fromS {P : Program} {t e : TypeId} {A : Addr} {cap : Nat} (h : Raw F k w (.slice (some A) n cap) n xs) (ht : P.underlying t = some (.slice e)) (hsz : (P.info? e).map (·.size) = some k) {lo : Nat} (hlo : lo ≤ n) :
    ∃ A', (∀ wx, (Instr.slice t (.slice (some A) n cap) (some (.int .i64 lo)) none none).run P wx = .ok (.slice (some A') (n - lo) (cap - lo)) wx) ∧ Raw F k w (.slice (some A') (n - lo) (cap - lo)) (n - lo) (xs.drop (lo * k)) := by
  have hc : n ≤ cap := by obtain ⟨_, _, _, _, hv, g3, _⟩ := h; cases hv; exact g3
  have hs := Raw.sliced h hlo (Nat.le_refl _) hc (Nat.le_refl _)
  rw [List.take_of_length_le (by rw [h.len]; exact Nat.le_refl _)] at hs
  have hrun : ∀ wx, (Instr.slice t (.slice (some A) n cap) (some (.int .i64 lo)) none none).run P wx = .ok (Go.sliced (some A) lo n cap k) wx := fun wx => by
    have hel : P.elem t = e := by simp [Program.elem, ht]
    rw [run_slice_l (P := P) wx t (some A) n cap (by rw [ht, hel]) .i64 lo (by omega) (by omega), hel]
    cases hi : P.info? e with
    | none => simp [hi] at hsz
    | some i => simp [hi] at hsz; simp [sizeOf, typeInfo, hi, hsz]
  unfold Go.sliced at hs hrun
  by_cases hcl : cap = lo
  · rw [if_pos hcl] at hs hrun; exact ⟨A, hrun, hs⟩
  · rw [if_neg hcl] at hs hrun; exact ⟨A.add (lo * k), hrun, hs⟩
/-- the cells of a slice that has an address -/
theorem Raw.cellsS {A : Addr} {c m : Nat} (h : Raw F k w (.slice (some A) m c) m xs) : ∀ j u, xs[j]? = some u → w.cell? (A.add j) = some u := fun j u hj => by
  rcases h.cases with ⟨_, rfl, _⟩ | ⟨_, b, off, cap, hv, _, _, _, _, hc⟩
  · cases hj
  · cases hv; rw [Addr.add_lit]; exact hc j u hj
/-- s[lo:hi] -/
theorem Raw.mid {P : Program} {t e : TypeId} {a : Option Addr} {cap : Nat} (h : Raw F k w (.slice a n cap) n xs) (ht : P.underlying t = some (.slice e)) (hsz : (P.info? e).map (·.size) = some k) {lo hi : Nat} (hlo : lo ≤ hi) (hhi : hi ≤ n) :
    ∃ a', (∀ wx, (Instr.slice t (.slice a n cap) (some (.int .i64 lo)) (some (.int .i64 hi)) none).run P wx = .ok (.slice a' (hi - lo) (cap - lo)) wx) ∧ Raw F k w (.slice a' (hi - lo) (cap - lo)) (hi - lo) ((xs.take (hi * k)).drop (lo * k)) := by
  have hc : n ≤ cap := by obtain ⟨_, _, _, _, hv, g3, _⟩ := h; cases hv; exact g3
  have hs := Raw.sliced h hlo hhi (Nat.le_trans hhi hc) (Nat.le_refl _)
  refine ⟨_, fun wx => ?_, hs⟩
  have hel : P.elem t = e := by simp [Program.elem, ht]
  rw [run_slice_lh (P := P) wx t a n cap (by rw [ht, hel]) .i64 .i64 lo hi (by omega) (by omega) (by omega), hel]
  cases hi : P.info? e with
  | none => simp [hi] at hsz
  | some i => simp [hi] at hsz; simp [sizeOf, typeInfo, hi, hsz, Go.sliced]
/-- s[:hi] -/
theorem Raw.upto {P : Program} {t e : TypeId} {a : Option Addr} {cap : Nat} (h : Raw F k w (.slice a n cap) n xs) (ht : P.underlying t = some (.slice e)) (hsz : (P.info? e).map (·.size) = some k) {hi : Nat} (hhi : hi ≤ n) :
    ∃ a', (∀ wx, (Instr.slice t (.slice a n cap) none (some (.int .i64 hi)) none).run P wx = .ok (.slice a' hi cap) wx) ∧ Raw F k w (.slice a' hi cap) hi (xs.take (hi * k)) := by
  have hc : n ≤ cap := by obtain ⟨_, _, _, _, hv, g3, _⟩ := h; cases hv; exact g3
  have hs := Raw.sliced (lo := 0) h (Nat.zero_le _) hhi (Nat.le_trans hhi hc) (Nat.le_refl _)
  refine ⟨_, fun wx => ?_, by simpa [Go.sliced] using hs⟩
  have hel : P.elem t = e := by simp [Program.elem, ht]
  rw [run_slice_h (P := P) wx t a n cap (by rw [ht, hel]) .i64 hi (by omega) (by omega), hel]
  cases hi : P.info? e with
  | none => simp [hi] at hsz
  | some i => simp [hi] at hsz; simp [sizeOf, typeInfo, hi, hsz, Go.sliced]
/-- the blocks that were there -/
def old (w : World) : List Nat := List.range w.heap.size
theorem old_lt {w : World} : ∀ f ∈ old w, f < w.heap.size := fun _ hf => List.mem_range.1 hf
theorem Raw.apart {w' : World} {F' : List Nat} {v : Value} (h : Raw (old w) k w' v n xs) (hF : ∀ f ∈ F', f < w.heap.size) : Raw F' k w' v n xs :=
  h.keep (Keep.refl [] w') (fun f hf => by cases hf) (fun f hf => .inl (List.mem_range.2 (hF f hf)))
/-- .. and of what is newer still -/
theorem Raw.apart' {w' : World} {F' : List Nat} {v : Value} (h : Raw (old w) k w' v n xs) (hF : ∀ f ∈ F', f < w.heap.size ∨ w'.heap.size ≤ f) : Raw F' k w' v n xs :=
  h.keep (Keep.refl [] w') (fun f hf => by cases hf) (fun f hf => (hF f hf).imp (fun h => List.mem_range.2 h) id)
theorem heap_set3 {w : World} {g : Nat} {x y z : Value} {t : TypeId} (h : w.heap[g]? = some (.cells #[x, y, z] t (0, 0))) (a b c : Value) : (((w.setCell ⟨g, 0, none⟩ a).setCell ⟨g, 1, none⟩ b).setCell ⟨g, 2, none⟩ c).heap[g]? = some (.cells #[a, b, c] t (0, 0)) := by
  have h1 := heap_setCell_same w g 0 _ t a h
  have h2 := heap_setCell_same _ g 1 _ t b h1
  have h3 := heap_setCell_same _ g 2 _ t c h2
  exact h3
theorem results_tct {P : Program} {fn : Func} {p q r : Tmp} {ty : TypeId} (h : fn.results = #[.tmp p, .cell q ty, .tmp r]) (tmps : Array Value) (w : World) (g : Nat) (t : TypeId) (cs : Array Value) (fr : Nat × Nat) (d : TypeDesc)
    (hp : tmps.getD q undef = .pointer (some ⟨g, 0, none⟩)) (hg : w.heap[g]? = some (.cells cs t fr))
    (hu : P.underlying ty = some d) (hd : (match d with | .struct _ | .array _ _ => true | _ => false) = true) (hi : (P.info? ty).map (·.size) = some cs.size) :
    (results fn tmps).run P w = .ok (.tuple #[tmps.getD p undef, .agg cs, tmps.getD r undef]) w := by
  have hp' : tmps[q]?.getD undef = .pointer (some ⟨g, 0, none⟩) := by simpa using hp
  simp [results, h, hp', asAddr, run_loadVar_row w g t ty cs fr d hg hu hd hi]
theorem results_ct {P : Program} {fn : Func} {q r : Tmp} {ty : TypeId} (h : fn.results = #[.cell q ty, .tmp r]) (tmps : Array Value) (w : World) (g : Nat) (t : TypeId) (cs : Array Value) (fr : Nat × Nat) (d : TypeDesc)
    (hp : tmps.getD q undef = .pointer (some ⟨g, 0, none⟩)) (hg : w.heap[g]? = some (.cells cs t fr))
    (hu : P.underlying ty = some d) (hd : (match d with | .struct _ | .array _ _ => true | _ => false) = true) (hi : (P.info? ty).map (·.size) = some cs.size) :
    (results fn tmps).run P w = .ok (.tuple #[.agg cs, tmps.getD r undef]) w := by
  have hp' : tmps[q]?.getD undef = .pointer (some ⟨g, 0, none⟩) := by simpa using hp
  simp [results, h, hp', asAddr, run_loadVar_row w g t ty cs fr d hg hu hd hi]
theorem results_ctt {P : Program} {fn : Func} {q r s : Tmp} {ty : TypeId} (h : fn.results = #[.cell q ty, .tmp r, .tmp s]) (tmps : Array Value) (w : World) (g : Nat) (t : TypeId) (cs : Array Value) (fr : Nat × Nat) (d : TypeDesc)
    (hp : tmps.getD q undef = .pointer (some ⟨g, 0, none⟩)) (hg : w.heap[g]? = some (.cells cs t fr))
    (hu : P.underlying ty = some d) (hd : (match d with | .struct _ | .array _ _ => true | _ => false) = true) (hi : (P.info? ty).map (·.size) = some cs.size) :
    (results fn tmps).run P w = .ok (.tuple #[.agg cs, tmps.getD r undef, tmps.getD s undef]) w := by
  have hp' : tmps[q]?.getD undef = .pointer (some ⟨g, 0, none⟩) := by simpa using hp
  simp [results, h, hp', asAddr, run_loadVar_row w g t ty cs fr d hg hu hd hi]
end Go.Rw
/- A region that draws its order, walked along every order of the operations that are not calm (the calm ones as soon as they can be). -/
namespace Go.Txt
open Go
variable {P : Program} {ops : Array Oper} {Q : Exit → Act → World → Prop} {N : Act → World → Prop} {m : Array Nat}

def isCalm (P : Program) (ops : Array Oper) (i : Nat) : Bool := match ops[i]? with | some o => calmKind P o | none => false
def firstCalm (P : Program) (ops : Array Oper) (listed : Array Bool) : Option Nat := (Region.ready .any ops listed).find? (isCalm P ops)
def wpB (P : Program) (ops : Array Oper) (N : Act → World → Prop) : Nat → Array Bool → Act → World → Prop
  | 0, L, a, w => Region.ready .any ops L = [] ∧ N a w
  | f + 1, L, a, w => match firstCalm P ops L with
    | some i => wpOp P ops NP i (wpB P ops N f (L.setIfInBounds i true)) a w
    | none => (Region.ready .any ops L = [] → N a w) ∧ ∀ i ∈ Region.ready .any ops L, wpOp P ops NP i (wpB P ops N f (L.setIfInBounds i true)) a w
/-- the operations of a list, one after the other -/
def wpS (P : Program) (ops : Array Oper) (N : Act → World → Prop) : List Nat → Act → World → Prop
  | [] => N
  | i :: l => wpOp P ops NP i (wpS P ops N l)
theorem wpS_append : ∀ (l1 l2 : List Nat), wpS P ops N (l1 ++ l2) = wpS P ops (wpS P ops N l2) l1
  | [], _ => rfl
  | i :: l1, l2 => by rw [List.cons_append]; unfold wpS; rw [wpS_append l1 l2]
theorem wpS_mono {N' : Act → World → Prop} (h : ∀ a w, N a w → N' a w) : ∀ (l : List Nat) (a : Act) (w : World), wpS P ops N l a w → wpS P ops N' l a w
  | [], a, w, hh => h a w hh
  | i :: l, a, w, hh => by unfold wpS at hh ⊢; exact wpOp_mono (fun a w => wpS_mono h l a w) hh
theorem wpS_exists : ∀ (l : List Nat) (a : Act) (w : World), wpS P ops N l a w → ∃ a' w', N a' w'
  | [], a, w, h => ⟨a, w, h⟩
  | i :: l, a, w, h => by
    unfold wpS at h
    cases hi : ops[i]? with
    | none => unfold wpOp at h; simp only [hi] at h; exact wpS_exists l a w h
    | some o => obtain ⟨a1, w1, h1⟩ := wpOp_some hi h; exact wpS_exists l a1 w1 h1
def mark (L : Array Bool) (s : List Nat) : Array Bool := s.foldl (fun L i => L.setIfInBounds i true) L
theorem mark_set (s : List Nat) : ∀ (L : Array Bool) (i : Nat), mark (L.setIfInBounds i true) s = (mark L s).setIfInBounds i true := by
  induction s with
  | nil => intro L i; rfl
  | cons j s ih =>
    intro L i
    show mark ((L.setIfInBounds i true).setIfInBounds j true) s = (mark (L.setIfInBounds j true) s).setIfInBounds i true
    rw [← ih]
    congr 1
    by_cases h : i = j
    · subst h; rfl
    · exact Array.setIfInBounds_comm _ _ h
theorem mark_append (L : Array Bool) (s t : List Nat) : mark L (s ++ t) = mark (mark L s) t := by simp [mark]
/-- valid calm operations, one after the other -/
def Run (P : Program) (ops : Array Oper) : Array Bool → List Nat → Prop
  | _, [] => True
  | D, i :: s => i ∈ Region.ready .any ops D ∧ isCalm P ops i = true ∧ Run P ops (D.setIfInBounds i true) s
theorem ready_more {D : Array Bool} {i j : Nat} (hi : i ∈ Region.ready .any ops D) (hne : i ≠ j) : i ∈ Region.ready .any ops (D.setIfInBounds j true) := by
  obtain ⟨h0, o, ho, h⟩ := mem_ready.1 hi
  exact mem_ready.2 ⟨by rw [getD_set_ne true (Ne.symm hne)]; exact h0, o, ho, fun e he hb => getD_set_true (h e he hb)⟩
theorem ready_ne {D : Array Bool} {i j : Nat} (hj : j < D.size) (hi : i ∈ Region.ready .any ops (D.setIfInBounds j true)) : i ≠ j := by
  rintro rfl
  have := (mem_ready.1 hi).1
  simp [hj] at this
theorem ready_lt {D : Array Bool} {i : Nat} (hs : D.size = ops.size) (hi : i ∈ Region.ready .any ops D) : i < D.size := by
  obtain ⟨_, o, ho, _⟩ := mem_ready.1 hi
  rw [hs]; exact (Array.getElem?_eq_some_iff.1 ho).1
theorem ready_mark {i : Nat} : ∀ (s : List Nat) {D : Array Bool}, i ∈ Region.ready .any ops D → i ∉ s → i ∈ Region.ready .any ops (mark D s)
  | [], D, hi, _ => hi
  | j :: s, D, hi, hn => ready_mark s (ready_more hi (by simp at hn; exact hn.1)) (by simp at hn; exact hn.2)
theorem run_drop {i : Nat} : ∀ (s1 s2 : List Nat) {D : Array Bool}, D.size = ops.size → i ∈ Region.ready .any ops D → i ∉ s1 → Run P ops D (s1 ++ i :: s2) → Run P ops (D.setIfInBounds i true) (s1 ++ s2)
  | [], s2, D, _, _, _, h => h.2.2
  | j :: s1, s2, D, hs, hi, hn, h => by
    have hij : i ≠ j := by simp at hn; exact hn.1
    refine ⟨ready_more h.1 (Ne.symm hij), h.2.1, ?_⟩
    rw [Array.setIfInBounds_comm _ _ hij]
    exact run_drop s1 s2 (by simpa using hs) (ready_more hi hij) (by simp at hn; exact hn.2) h.2.2
theorem run_more {i : Nat} : ∀ (s : List Nat) {D : Array Bool}, i ∉ s → Run P ops D s → Run P ops (D.setIfInBounds i true) s
  | [], _, _, _ => trivial
  | j :: s, D, hn, h => by
    have hij : i ≠ j := by simp at hn; exact hn.1
    refine ⟨ready_more h.1 (Ne.symm hij), h.2.1, ?_⟩
    rw [Array.setIfInBounds_comm _ _ hij]
    exact run_more s (by simp at hn; exact hn.2) h.2.2
theorem run_snoc {c : Nat} : ∀ (s : List Nat) {D : Array Bool}, Run P ops D s → c ∈ Region.ready .any ops (mark D s) → isCalm P ops c = true → Run P ops D (s ++ [c])
  | [], D, _, hc, hk => ⟨hc, hk, trivial⟩
  | j :: s, D, h, hc, hk => ⟨h.1, h.2.1, run_snoc s h.2.2 hc hk⟩

theorem run_prefix : ∀ (s1 s2 : List Nat) {D : Array Bool}, Run P ops D (s1 ++ s2) → Run P ops D s1
  | [], _, _, _ => trivial
  | _ :: s1, s2, _, h => ⟨h.1, h.2.1, run_prefix s1 s2 h.2.2⟩
theorem split_first {i : Nat} : ∀ (s : List Nat), i ∈ s → ∃ s1 s2, s = s1 ++ i :: s2 ∧ i ∉ s1
  | [], h => by cases h
  | j :: s, h => by
    by_cases hij : i = j
    · subst hij; exact ⟨[], s, rfl, by simp⟩
    · obtain ⟨s1, s2, rfl, hn⟩ := split_first s (by simpa [hij] using h)
      exact ⟨j :: s1, s2, rfl, by simp [hij, hn]⟩
theorem mark_mid (D : Array Bool) (s1 s2 : List Nat) (i : Nat) : mark D (s1 ++ i :: s2) = mark (D.setIfInBounds i true) (s1 ++ s2) := by
  rw [mark_append, mark_append, mark_set]; rfl
/-- calm operations ask nothing plain of their operands; two that do not wait for each other are apart, if one is calm -/
def altOK (P : Program) (ops : Array Oper) (m : Array Nat) : Bool :=
  Region.noSelect ops && masksOK ops m && (List.range ops.size).all fun j => match ops[j]? with
    | none => true
    | some oj => !calmKind P oj || (List.range ops.size).all fun i => decide (i = j) || waits m i j || waits m j i || match ops[i]? with | some oi => !asksPlain oj && oj.apart ops oi | none => true
theorem altOK_parts (h : altOK P ops m = true) : Region.noSelect ops = true ∧ masksOK ops m = true ∧ ∀ (j : Nat) (oj : Oper), ops[j]? = some oj → calmKind P oj = true →
    ∀ (i : Nat) (oi : Oper), ops[i]? = some oi → i ≠ j → waits m i j = false → waits m j i = false → asksPlain oj = false ∧ oj.apart ops oi = true := by
  unfold altOK at h
  simp only [Bool.and_eq_true] at h
  obtain ⟨⟨h1, h2⟩, h3⟩ := h
  refine ⟨h1, h2, fun j oj hj hc => ?_⟩
  have h4 := List.all_eq_true.1 h3 j (List.mem_range.2 (Array.getElem?_eq_some_iff.1 hj).1)
  simp only [hj, hc, Bool.not_true, Bool.false_or] at h4
  intro i oi hi hne w1 w2
  have h5 := List.all_eq_true.1 h4 i (List.mem_range.2 (Array.getElem?_eq_some_iff.1 hi).1)
  simpa [hne, w1, w2, hi] using h5

def Closed (ops : Array Oper) (D : Array Bool) : Prop := ∀ k o, ops[k]? = some o → D.getD k false = true → ∀ e ∈ o.after, Region.binds .any e = true → D.getD e.on false = true
theorem Closed.add {D : Array Bool} (h : Closed ops D) {i : Nat} (hi : i ∈ Region.ready .any ops D) : Closed ops (D.setIfInBounds i true) := by
  intro k o ho hk e he hb
  obtain ⟨_, oi, hoi, hd⟩ := mem_ready.1 hi
  by_cases hki : k = i
  · subst hki
    rw [ho] at hoi; cases hoi
    exact getD_set_true (hd e he hb)
  · rw [getD_set_ne false (Ne.symm hki)] at hk
    exact getD_set_true (h k o ho hk e he hb)
theorem no_wait (hm : masksOK ops m = true) {D : Array Bool} (hs : D.size = ops.size) (hc : Closed ops D) {i j : Nat} (hi : i ∈ Region.ready .any ops D) (hj : j ∈ Region.ready .any ops D) : waits m i j = false := by
  cases hw : waits m i j with
  | false => rfl
  | true =>
    obtain ⟨_, oi, hoi, hd⟩ := mem_ready.1 hi
    have h1 := waits_listed hm hc i oi hoi hd j hw
    have h2 := (mem_ready.1 hj).1
    have hlt := ready_lt hs hj
    simp [hlt] at h1 h2
    rw [h1] at h2; cases h2

theorem calm_swap (hs : Region.noSelect ops = true) {i j : Nat} {oi oj : Oper} (hi : ops[i]? = some oi) (hj : ops[j]? = some oj) (hk : calmKind P oj = true) (hp : asksPlain oj = false) (hap : oj.apart ops oi = true)
    {l : List Nat} {a : Act} {w : World} (h : wpS P ops N (j :: i :: l) a w) : wpS P ops N (i :: j :: l) a w := by
  have hsi := Region.noSelect_spec hs i oi
  have hsj := Region.noSelect_spec hs j oj
  unfold wpS at h ⊢
  unfold wpS at h ⊢
  obtain ⟨v, hy, h⟩ := yields_of hj hk (plainAt_idle hp _) h
  have := wpOp_put (Q := NP) hi hap (fun cs b => hsj cs b hj) (fun cs b => hsi cs b hi) (fun c a w h => h) hy h
  exact wpOp_mono (fun a' w' h' => h'.1.wpOp hj h'.2) this

theorem bubbleB (ht : altOK P ops m = true) {i : Nat} {s2 : List Nat} : ∀ (s1 : List Nat) {D : Array Bool}, D.size = ops.size → Closed ops D → i ∈ Region.ready .any ops D → i ∉ s1 → Run P ops D s1 → ∀ (a : Act) (w : World),
    wpS P ops N (s1 ++ i :: s2) a w → wpS P ops N (i :: (s1 ++ s2)) a w
  | [], _, _, _, _, _, _, _, _, h => h
  | j :: s1, D, hs, hc, hi, hn, hr, a, w, h => by
    obtain ⟨hsel, hm, hparts⟩ := altOK_parts ht
    have hij : i ≠ j := by simp at hn; exact hn.1
    obtain ⟨_, oi, hoi, _⟩ := mem_ready.1 hi
    obtain ⟨_, oj, hoj, _⟩ := mem_ready.1 hr.1
    have hcj : calmKind P oj = true := by have := hr.2.1; simpa [isCalm, hoj] using this
    obtain ⟨hpj, hap⟩ := hparts j oj hoj hcj i oi hoi hij (no_wait hm hs hc hi hr.1) (no_wait hm hs hc hr.1 hi)
    refine calm_swap hsel hoi hoj hcj hpj hap ?_
    have h' : wpS P ops N (j :: (s1 ++ i :: s2)) a w := h
    unfold wpS at h' ⊢
    exact wpOp_mono (fun a' w' hh => bubbleB ht s1 (by simpa using hs) (hc.add hr.1) (ready_more hi hij) (by simp at hn; exact hn.2) hr.2.2 a' w' hh) h'

theorem expose {D : Array Bool} {i : Nat} (hi : i ∈ Region.ready .any ops D) {a : Act} {w : World} : ∀ (f : Nat) (s : List Nat), Run P ops D s → i ∉ s → wpS P ops (wpB P ops N f (mark D s)) s a w →
    ∃ s' f', Run P ops D s' ∧ i ∉ s' ∧ wpS P ops (fun a w => wpOp P ops NP i (wpB P ops N f' ((mark D s').setIfInBounds i true)) a w) s' a w
  | 0, s, _, hn, h => by
    obtain ⟨a', w', h', _⟩ := wpS_exists s a w h
    have := ready_mark s hi hn
    rw [h'] at this; cases this
  | f + 1, s, hr, hn, h => by
    cases hfc : firstCalm P ops (mark D s) with
    | some c =>
      have h1 : wpS P ops (fun a w => wpOp P ops NP c (wpB P ops N f ((mark D s).setIfInBounds c true)) a w) s a w := wpS_mono (fun a w hh => by simpa only [wpB, hfc] using hh) s a w h
      by_cases hci : c = i
      · subst hci; exact ⟨s, f, hr, hn, h1⟩
      · have hcm := List.mem_of_find?_eq_some hfc
        have hck : isCalm P ops c = true := by simpa using List.find?_some hfc
        refine expose hi f (s ++ [c]) (run_snoc s hr hcm hck) (by simp [hn]; exact fun e => hci e.symm) ?_
        rw [mark_append, wpS_append]
        exact h1
    | none =>
      refine ⟨s, f, hr, hn, wpS_mono (fun a w hh => ?_) s a w h⟩
      simp only [wpB, hfc] at hh
      exact hh.2 i (ready_mark s hi hn)

theorem wpAny_of_B (ht : altOK P ops m = true) (hNQ : ∀ a w, N a w → Q .normal a w) : ∀ (fuel : Nat) (D : Array Bool) (s : List Nat) (f : Nat) (a : Act) (w : World), D.size = ops.size → (left ops D).length ≤ fuel → Closed ops D → Run P ops D s →
    wpS P ops (wpB P ops N f (mark D s)) s a w → wpAny P .any ops Q fuel D a w := by
  have hend : ∀ (D : Array Bool) (s : List Nat) (f : Nat) (a : Act) (w : World), Region.ready .any ops D = [] → Run P ops D s → wpS P ops (wpB P ops N f (mark D s)) s a w → N a w := by
    intro D s f a w hr hrun h
    cases s with
    | cons i s => have := hrun.1; rw [hr] at this; cases this
    | nil =>
      cases f with
      | zero => exact h.2
      | succ f =>
        have hfc : firstCalm P ops D = none := by simp [firstCalm, hr]
        have h' : wpB P ops N (f + 1) D a w := h
        simp only [wpB, hfc] at h'
        exact h'.1 hr
  intro fuel
  induction fuel with
  | zero =>
    intro D s f a w hs hl hc hr h
    have hre : Region.ready .any ops D = [] := by
      cases hre : Region.ready .any ops D with
      | nil => rfl
      | cons k r =>
        have hk := mem_ready.1 (show k ∈ Region.ready .any ops D by rw [hre]; simp)
        obtain ⟨h0, o, ho, _⟩ := hk
        have : k ∈ left ops D := by simp [left, (Array.getElem?_eq_some_iff.1 ho).1]; simpa using h0
        rw [List.length_eq_zero_iff.1 (Nat.le_zero.1 hl)] at this; cases this
    exact ⟨hre, hNQ _ _ (hend D s f a w hre hr h)⟩
  | succ fuel ih =>
    intro D s f a w hs hl hc hr h
    refine ⟨fun hre => hNQ _ _ (hend D s f a w hre hr h), fun i hi => ?_⟩
    have hlt := ready_lt hs hi
    have hleft : (left ops (D.setIfInBounds i true)).length ≤ fuel := by
      have himem : i ∈ left ops D := by
        have := (mem_ready.1 hi).1
        simp [left]; exact ⟨by omega, by simpa using this⟩
      have e1 : left ops (D.setIfInBounds i true) = (left ops D).filter (fun k => k != i) := by
        unfold left
        rw [List.filter_filter]
        apply List.filter_congr
        intro k hk
        by_cases hki : k = i
        · subst hki; simp [hlt]
        · rw [getD_set_ne true (Ne.symm hki)]; simp [hki]
      rw [e1]
      have : ((left ops D).filter (fun k => k != i)).length < (left ops D).length := List.length_filter_lt_length_iff_exists.2 ⟨i, himem, by simp⟩
      omega
    have hfin : ∀ (s1 s2 : List Nat) (f : Nat), i ∉ s1 → Run P ops D s1 → Run P ops (D.setIfInBounds i true) (s1 ++ s2) →
        wpS P ops (wpB P ops N f (mark (D.setIfInBounds i true) (s1 ++ s2))) (s1 ++ i :: s2) a w → wpOp P ops Q i (wpAny P .any ops Q fuel (D.setIfInBounds i true)) a w := by
      intro s1 s2 f hn hr1 hr2 hh
      have hb := bubbleB ht s1 hs hc hi hn hr1 a w hh
      unfold wpS at hb
      exact wpOp_chg (fun c a w h => (h : False).elim) (fun h => (NP.noOut h).elim) (wpOp_mono (fun a' w' h' => ih _ _ f a' w' (by simpa using hs) hleft (hc.add hi) hr2 h') hb)
    by_cases his : i ∈ s
    · obtain ⟨s1, s2, rfl, hn⟩ := split_first s his
      refine hfin s1 s2 f hn (run_prefix s1 _ hr) (run_drop s1 s2 hs hi hn hr) ?_
      rw [← mark_mid]
      exact h
    · obtain ⟨s', f', hr', hn', h'⟩ := expose hi f s hr his h
      refine hfin s' [] f' hn' hr' (by rw [List.append_nil]; exact run_more s' hn' hr') ?_
      rw [List.append_nil, mark_set, wpS_append]
      exact h'

/-- the region, by every order of its operations that are not calm -/
theorem wp_alts {id : Nat} {l : List Oper} {a : Act} {w : World} (hm : P.follows .mixedOrders = true) (ht : altOK P l.toArray (Region.before l.toArray) = true)
    (h : wpB P l.toArray (fun a w => Q .normal a w) l.length (Array.replicate l.length false) a w.drew) : (Code.region id l.toArray true).wp P Q a w := by
  refine wp_region_any hm ?_
  refine wpAny_of_B (N := fun a w => Q .normal a w) ht (fun a w h => h) _ _ [] l.length _ _ (by simp) (Nat.le_trans (List.length_filter_le _ _) (by simp)) (fun k o ho hk => ?_) trivial (by simpa [mark, wpS] using h)
  exfalso
  rcases Nat.lt_or_ge k l.length with h' | h' <;> simp [h'] at hk

/-- the tree of the orders: runs of operations; 'alt s t o': the run s (its first operation one of those that are ready), then t; or else o -/
inductive Tr
  | done : Tr
  | no : Tr
  | alt : List Nat → Tr → Tr → Tr
def pick (l : List Oper) : List Nat → List Oper
  | [] => []
  | i :: s => match l[i]? with
    | some o => o :: pick l s
    | none => pick l s
/-- the post of a run -/
def RunPost (N : Act → World → Prop) (Q : Exit → Act → World → Prop) : Exit → Act → World → Prop
  | .normal, a, w => N a w
  | .panic _, _, _ => False
  | .outgrown, _, _ => False
  | e, a, w => Q e a w
theorem RunPost.mk {N : Act → World → Prop} {Q : Exit → Act → World → Prop} {a : Act} {w : World} (h : N a w) : RunPost N Q .normal a w := h
def wpTr (P : Program) (l : List Oper) (Q : Exit → Act → World → Prop) : Tr → Act → World → Prop
  | .done, a, w => Q .normal a w
  | .no, _, _ => True
  | .alt s t o, a, w => wpList P l.toArray (RunPost (wpTr P l Q t) Q) (pick l s) a w ∧ wpTr P l Q o a w
/-- the runs' first operations -/
def Tr.heads : Tr → List Nat
  | .alt (i :: _) _ o => i :: o.heads
  | _ => []
/-- the run s is what comes from L on: calm operations as they come -/
def runOK (P : Program) (ops : Array Oper) : Array Bool → List Nat → Bool
  | _, [] => true
  | L, i :: s => firstCalm P ops L == some i && runOK P ops (L.setIfInBounds i true) s
mutual
/-- behind a run: no calm operation is ready -/
def trOK (P : Program) (ops : Array Oper) : Nat → Array Bool → Tr → Bool
  | 0, _, _ => false
  | f + 1, L, t => firstCalm P ops L == none && match t with
    | .done => Region.ready .any ops L == []
    | .no => false
    | .alt s t' o => (Tr.alt s t' o).heads == Region.ready .any ops L && altsOK P ops f L (.alt s t' o)
def altsOK (P : Program) (ops : Array Oper) : Nat → Array Bool → Tr → Bool
  | 0, _, _ => false
  | _ + 1, _, .no => true
  | _ + 1, _, .done => false
  | f + 1, L, .alt s t o => (match s with
    | [] => false
    | i :: s => runOK P ops (L.setIfInBounds i true) s && trOK P ops f (mark (L.setIfInBounds i true) s) t) && altsOK P ops f L o
end

theorem left_set {D : Array Bool} (hs : D.size = ops.size) {i : Nat} (hi : i ∈ Region.ready .any ops D) : (left ops (D.setIfInBounds i true)).length < (left ops D).length := by
  have hlt := ready_lt hs hi
  have himem : i ∈ left ops D := by
    have := (mem_ready.1 hi).1
    simp [left]; exact ⟨by omega, by simpa using this⟩
  have e1 : left ops (D.setIfInBounds i true) = (left ops D).filter (fun k => k != i) := by
    unfold left
    rw [List.filter_filter]
    apply List.filter_congr
    intro k hk
    by_cases hki : k = i
    · subst hki; simp [hlt]
    · rw [getD_set_ne true (Ne.symm hki)]; simp [hki]
  rw [e1]
  exact List.length_filter_lt_length_iff_exists.2 ⟨i, himem, by simp⟩
theorem list_S {l : List Oper} {K : Act → World → Prop} : ∀ (s : List Nat) (a : Act) (w : World), wpList P l.toArray (RunPost K Q) (pick l s) a w → wpS P l.toArray K s a w
  | [], _, _, h => h
  | i :: s, a, w, h => by
    unfold wpS
    cases hi : l[i]? with
    | none =>
      have hp : pick l (i :: s) = pick l s := by simp [pick, hi]
      rw [hp] at h
      unfold wpOp
      have : l.toArray[i]? = none := by simpa using hi
      simp only [this]
      exact list_S s a w h
    | some o =>
      have hp : pick l (i :: s) = o :: pick l s := by simp [pick, hi]
      rw [hp] at h
      have hk : l.toArray[i]? = some o := by simpa using hi
      have h1 : wpOp P l.toArray (RunPost K Q) i (wpList P l.toArray (RunPost K Q) (pick l s)) a w := by
        unfold wpOp; simp only [hk]; exact h
      exact wpOp_chg (fun c a w h => (h : False)) (fun ⟨a, w, h⟩ => (h : False).elim) (wpOp_mono (fun a' w' h' => list_S s a' w' h') h1)
theorem run_B {Q' : Act → World → Prop} : ∀ (s : List Nat) (L : Array Bool) (n : Nat) (a : Act) (w : World), L.size = ops.size → (left ops L).length ≤ n → runOK P ops L s = true →
    (∀ n', (left ops (mark L s)).length ≤ n' → ∀ a w, N a w → wpB P ops Q' n' (mark L s) a w) → wpS P ops N s a w → wpB P ops Q' n L a w
  | [], L, n, a, w, _, hn, _, hK, h => hK n hn a w h
  | i :: s, L, n, a, w, hs, hn, hr, hK, h => by
    simp only [runOK, Bool.and_eq_true, beq_iff_eq] at hr
    obtain ⟨hfc, hr⟩ := hr
    have hi : i ∈ Region.ready .any ops L := List.mem_of_find?_eq_some hfc
    have hlt := left_set hs hi
    cases n with
    | zero => omega
    | succ n =>
      simp only [wpB, hfc]
      unfold wpS at h
      exact wpOp_mono (fun a' w' h' => run_B s (L.setIfInBounds i true) n a' w' (by simpa using hs) (by omega) hr hK h') h

theorem mark_size (s : List Nat) : ∀ (L : Array Bool), (mark L s).size = L.size := by
  induction s with
  | nil => intro L; rfl
  | cons i s ih => intro L; show (mark (L.setIfInBounds i true) s).size = _; rw [ih]; simp
mutual
theorem tr_B {l : List Oper} : ∀ (f : Nat) (L : Array Bool) (t : Tr) (n : Nat) (a : Act) (w : World), L.size = l.toArray.size → (left l.toArray L).length ≤ n → trOK P l.toArray f L t = true → wpTr P l Q t a w → wpB P l.toArray (fun a w => Q .normal a w) n L a w
  | 0, _, _, _, _, _, _, _, ht, _ => by simp [trOK] at ht
  | f + 1, L, .done, n, a, w, hs, hn, ht, h => by
    simp only [trOK, Bool.and_eq_true, beq_iff_eq] at ht
    obtain ⟨hfc, hr⟩ := ht
    cases n with
    | zero => exact ⟨hr, h⟩
    | succ n =>
      simp only [wpB, hfc]
      exact ⟨fun _ => h, fun i hi => by rw [hr] at hi; cases hi⟩
  | f + 1, L, .no, _, _, _, _, _, ht, _ => by simp [trOK] at ht
  | f + 1, L, .alt s t o, n, a, w, hs, hn, ht, h => by
    simp only [trOK, Bool.and_eq_true, beq_iff_eq] at ht
    obtain ⟨hfc, hh, ha⟩ := ht
    have key := alts_B f L (.alt s t o) n a w hs hn ha h
    rw [hh] at key
    have hne : ∃ i, i ∈ Region.ready .any l.toArray L := by
      cases s with
      | nil => cases f <;> simp [altsOK] at ha
      | cons i s => exact ⟨i, by rw [← hh]; simp [Tr.heads]⟩
    obtain ⟨i0, hi0⟩ := hne
    have hlt := left_set hs hi0
    cases n with
    | zero => omega
    | succ n =>
      simp only [wpB, hfc]
      have h1 : Region.ready .any l.toArray L = [] → Q .normal a w := fun e => by
        rw [e] at hi0; exact absurd hi0 List.not_mem_nil
      exact ⟨h1, fun i hi => key i hi hi n (by have := left_set hs hi; omega)⟩
theorem alts_B {l : List Oper} : ∀ (f : Nat) (L : Array Bool) (t : Tr) (n : Nat) (a : Act) (w : World), L.size = l.toArray.size → (left l.toArray L).length ≤ n → altsOK P l.toArray f L t = true → wpTr P l Q t a w →
    ∀ i ∈ t.heads, i ∈ Region.ready .any l.toArray L → ∀ n', (left l.toArray (L.setIfInBounds i true)).length ≤ n' → wpOp P l.toArray NP i (wpB P l.toArray (fun a w => Q .normal a w) n' (L.setIfInBounds i true)) a w
  | 0, _, _, _, _, _, _, _, ht, _ => by simp [altsOK] at ht
  | f + 1, L, .done, _, _, _, _, _, ht, _ => by simp [altsOK] at ht
  | f + 1, L, .no, _, _, _, _, _, _, _ => by intro i hi; simp [Tr.heads] at hi
  | f + 1, L, .alt [] t o, _, _, _, _, _, ht, _ => by simp [altsOK] at ht
  | f + 1, L, .alt (j :: s) t o, n, a, w, hs, hn, ht, h => by
    simp only [altsOK, Bool.and_eq_true] at ht
    obtain ⟨⟨hr, htr⟩, ho⟩ := ht
    obtain ⟨h1, h2⟩ := h
    intro i hi hir n' hn'
    simp only [Tr.heads, List.mem_cons] at hi
    rcases hi with rfl | hi
    · have hS := list_S (i :: s) a w h1
      unfold wpS at hS
      exact wpOp_mono (fun a' w' h' => run_B s (L.setIfInBounds i true) n' a' w' (by simpa using hs) hn' hr (fun n'' hn'' a w hw => tr_B f _ t n'' a w (by rw [mark_size]; simpa using hs) hn'' htr hw) h') hS
    · exact alts_B f L o n a w hs hn ho h2 i hi hir n' hn'
end
/-- **A region that draws its order, by a tree of orders**: the first run (calm operations), then the tree. -/
theorem wp_tree (s : List Nat) (t : Tr) {id : Nat} {l : List Oper} {a : Act} {w : World} (hm : P.follows .mixedOrders = true) (ht : altOK P l.toArray (Region.before l.toArray) = true)
    (hr : runOK P l.toArray (Array.replicate l.length false) s = true) (hT : trOK P l.toArray 100 (mark (Array.replicate l.length false) s) t = true)
    (h : wpList P l.toArray (RunPost (wpTr P l Q t) Q) (pick l s) a w.drew) : (Code.region id l.toArray true).wp P Q a w := by
  refine wp_alts hm ht ?_
  refine run_B s _ _ _ _ (by simp) (Nat.le_trans (List.length_filter_le _ _) (by simp)) hr (fun n' hn' a w hw => tr_B 100 _ t n' a w (by rw [mark_size]; simp) hn' hT hw) (list_S s _ _ h)
end Go.Txt
namespace Go.Txt
open Go
theorem wpTr_gen {P : Program} {l : List Oper} {Q : Exit → Act → World → Prop} {t : Tr} {a : Act} {w : World} {I : World → Prop} (h : I w) (k : ∀ w', I w' → wpTr P l Q t a w') : wpTr P l Q t a w := k w h
theorem wpTr_alt {P : Program} {l : List Oper} {Q : Exit → Act → World → Prop} {s : List Nat} {t o : Tr} {a : Act} {w : World} (h : wpList P l.toArray (RunPost (wpTr P l Q t) Q) (pick l s) a w) (k : wpTr P l Q o a w) : wpTr P l Q (.alt s t o) a w := ⟨h, k⟩
theorem wpTr_no {P : Program} {l : List Oper} {Q : Exit → Act → World → Prop} {a : Act} {w : World} : wpTr P l Q .no a w := trivial
theorem wpTr_done {P : Program} {l : List Oper} {Q : Exit → Act → World → Prop} {a : Act} {w : World} (h : Q .normal a w) : wpTr P l Q .done a w := h
end Go.Txt
/- A region that draws its order, walked along every order of the operations that are neither calm nor loads from blocks that nobody changes. -/
namespace Go.Txt.Ty
open Go
variable {P : Program} {ops : Array Oper} {Q : Exit → Act → World → Prop} {N : Act → World → Prop} {m : Array Nat} {S : World → Prop} {blocks fl tl lk : List Nat} {w0 : World}

/-- calm, or one of the loads lk -/
def like (P : Program) (lk : List Nat) (ops : Array Oper) (i : Nat) : Bool := match ops[i]? with | some o => calmKind P o || (roKind P o && lk.contains i) | none => false
/-- behind which S is to be shown: all that change memory but tl -/
def mvY (P : Program) (tl : List Nat) (ops : Array Oper) (k : Nat) : Bool := !tl.contains k && match ops[k]? with | some o => !(calmKind P o || roKind P o) | none => false
def first (P : Program) (lk : List Nat) (ops : Array Oper) (listed : Array Bool) : Option Nat := (Region.ready .any ops listed).find? (like P lk ops)
def wpB (P : Program) (lk tl : List Nat) (ops : Array Oper) (S : World → Prop) (N : Act → World → Prop) : Nat → Array Bool → Act → World → Prop
  | 0, L, a, w => Region.ready .any ops L = [] ∧ N a w
  | f + 1, L, a, w => match first P lk ops L with
    | some i => wpOp P ops NP i (fun a' w' => (mvY P tl ops i = true → S w') ∧ wpB P lk tl ops S N f (L.setIfInBounds i true) a' w') a w
    | none => (Region.ready .any ops L = [] → N a w) ∧ ∀ i ∈ Region.ready .any ops L, wpOp P ops NP i (fun a' w' => (mvY P tl ops i = true → S w') ∧ wpB P lk tl ops S N f (L.setIfInBounds i true) a' w') a w
theorem F_mono {mv : Nat → Bool} {N' : Act → World → Prop} (h : ∀ a w, N a w → N' a w) : ∀ (l : List Nat) (a : Act) (w : World), wpF P ops S mv N l a w → wpF P ops S mv N' l a w
  | [], a, w, hh => h a w hh
  | i :: l, a, w, hh => by unfold wpF at hh ⊢; exact wpOp_mono (fun a w h' => ⟨h'.1, F_mono h l a w h'.2⟩) hh
/-- valid like operations, one after the other -/
def Run (P : Program) (lk : List Nat) (ops : Array Oper) : Array Bool → List Nat → Prop
  | _, [] => True
  | D, i :: s => i ∈ Region.ready .any ops D ∧ like P lk ops i = true ∧ Run P lk ops (D.setIfInBounds i true) s
theorem run_drop {i : Nat} : ∀ (s1 s2 : List Nat) {D : Array Bool}, D.size = ops.size → i ∈ Region.ready .any ops D → i ∉ s1 → Run P lk ops D (s1 ++ i :: s2) → Run P lk ops (D.setIfInBounds i true) (s1 ++ s2)
  | [], s2, D, _, _, _, h => h.2.2
  | j :: s1, s2, D, hs, hi, hn, h => by
    have hij : i ≠ j := by simp at hn; exact hn.1
    refine ⟨ready_more h.1 (Ne.symm hij), h.2.1, ?_⟩
    rw [Array.setIfInBounds_comm _ _ hij]
    exact run_drop s1 s2 (by simpa using hs) (ready_more hi hij) (by simp at hn; exact hn.2) h.2.2
theorem run_more {i : Nat} : ∀ (s : List Nat) {D : Array Bool}, i ∉ s → Run P lk ops D s → Run P lk ops (D.setIfInBounds i true) s
  | [], _, _, _ => trivial
  | j :: s, D, hn, h => by
    have hij : i ≠ j := by simp at hn; exact hn.1
    refine ⟨ready_more h.1 (Ne.symm hij), h.2.1, ?_⟩
    rw [Array.setIfInBounds_comm _ _ hij]
    exact run_more s (by simp at hn; exact hn.2) h.2.2
theorem run_snoc {c : Nat} : ∀ (s : List Nat) {D : Array Bool}, Run P lk ops D s → c ∈ Region.ready .any ops (mark D s) → like P lk ops c = true → Run P lk ops D (s ++ [c])
  | [], D, _, hc, hk => ⟨hc, hk, trivial⟩
  | j :: s, D, h, hc, hk => ⟨h.1, h.2.1, run_snoc s h.2.2 hc hk⟩
theorem run_prefix : ∀ (s1 s2 : List Nat) {D : Array Bool}, Run P lk ops D (s1 ++ s2) → Run P lk ops D s1
  | [], _, _, _ => trivial
  | _ :: s1, s2, _, h => ⟨h.1, h.2.1, run_prefix s1 s2 h.2.2⟩
theorem getD_false {D : Array Bool} {i k : Nat} (h : (D.setIfInBounds i true).getD k true = false) : D.getD k true = false := by
  by_cases e : i = k
  · subst e
    rcases Nat.lt_or_ge i D.size with h' | h' <;> simp [h'] at h
  · rw [getD_set_ne true e] at h; exact h
theorem getD_mark {k : Nat} : ∀ (s : List Nat) {D : Array Bool}, (mark D s).getD k true = false → D.getD k true = false
  | [], _, h => h
  | _ :: s, _, h => getD_false (getD_mark s h)
/-- what is run had not come up -/
theorem run_left : ∀ (s : List Nat) {D : Array Bool}, Run P lk ops D s → ∀ k ∈ s, D.getD k true = false
  | [], _, _, k, hk => by cases hk
  | j :: s, D, h, k, hk => by
    rcases List.mem_cons.1 hk with rfl | hk
    · exact (mem_ready.1 h.1).1
    · exact getD_false (run_left s h.2.2 k hk)

/-- no loads but those that float are called like calm ones; two that do not wait for each other are apart, if one is like a calm one -/
def altOK (P : Program) (fl tl lk : List Nat) (ops : Array Oper) (m : Array Nat) : Bool :=
  (Region.noSelect ops && tl.all fun k => fl.all fun f => waits m k f) && masksOK ops m && (List.range ops.size).all fun j => match ops[j]? with
    | none => true
    | some oj => (!like P lk ops j || (List.range ops.size).all fun i => decide (i = j) || waits m i j || waits m j i || match ops[i]? with | some oi => pairOK P fl (mvY P tl ops) j i oj oi ops | none => true) &&
      (!(asksPlain oj || fl.contains j) || (List.range ops.size).all fun k => waits m j k || match ops[k]? with
        | some ok => match ok.dst with | some d => !(oj.looksAt ops).contains d | none => true
        | none => true)
theorem altOK_parts (h : altOK P fl tl lk ops m = true) : (Region.noSelect ops = true ∧ ∀ k ∈ tl, ∀ f ∈ fl, waits m k f = true) ∧ masksOK ops m = true ∧
    (∀ (j : Nat) (oj : Oper), ops[j]? = some oj → like P lk ops j = true → ∀ (i : Nat) (oi : Oper), ops[i]? = some oi → i ≠ j → waits m i j = false → waits m j i = false → pairOK P fl (mvY P tl ops) j i oj oi ops = true) ∧
    (∀ (j : Nat) (oj : Oper), ops[j]? = some oj → asksPlain oj = true ∨ j ∈ fl → ∀ (k : Nat) (ok : Oper), ops[k]? = some ok → waits m j k = false → ∀ t ∈ oj.looksAt ops, ok.dst ≠ some t) := by
  unfold altOK at h
  simp only [Bool.and_eq_true] at h
  obtain ⟨⟨h1, h2⟩, h3⟩ := h
  have h4 : ∀ (j : Nat) (oj : Oper), ops[j]? = some oj → _ := fun j oj hj => List.all_eq_true.1 h3 j (List.mem_range.2 (Array.getElem?_eq_some_iff.1 hj).1)
  refine ⟨⟨h1.1, fun k hk f hf => List.all_eq_true.1 (List.all_eq_true.1 h1.2 k hk) f hf⟩, h2, fun j oj hj hc i oi hi hne w1 w2 => ?_, fun j oj hj ha k ok hk hw t ht he => ?_⟩
  · have h5 := h4 j oj hj
    simp only [hj, Bool.and_eq_true, hc, Bool.not_true, Bool.false_or] at h5
    have h6 := List.all_eq_true.1 h5.1 i (List.mem_range.2 (Array.getElem?_eq_some_iff.1 hi).1)
    simpa [hne, w1, w2, hi] using h6
  · have h5 := h4 j oj hj
    simp only [hj, Bool.and_eq_true] at h5
    have h5 := h5.2
    have ha' : (asksPlain oj || fl.contains j) = true := by simpa using ha
    simp only [ha', Bool.not_true, Bool.false_or] at h5
    have h6 := List.all_eq_true.1 h5 k (List.mem_range.2 (Array.getElem?_eq_some_iff.1 hk).1)
    simp only [hw, hk, Bool.false_or, he, Bool.not_eq_true', List.contains_eq_mem, decide_eq_false_iff_not] at h6
    exact h6 ht

/-- behind N all goes to an end that is checked, and only those that had not come up write -/
def Ends (blocks fl : List Nat) (ops : Array Oper) (E : Array Bool) (N : Act → World → Prop) : Prop :=
  ∀ a w, N a w → ∃ a', Chk blocks fl ops a' ∧ ∀ t, (∀ k o, ops[k]? = some o → E.getD k true = false → o.dst ≠ some t) → a'.tmps.getD t undef = a.tmps.getD t undef
theorem B_ends (hN : ∀ a w, N a w → Chk blocks fl ops a) : ∀ (f : Nat) (L : Array Bool), Ends blocks fl ops L (wpB P lk tl ops S N f L)
  | 0, L, a, w, h => ⟨a, hN a w h.2, fun _ _ => rfl⟩
  | f + 1, L, a, w, h => by
    have step : ∀ i, i ∈ Region.ready .any ops L → wpOp P ops NP i (fun a' w' => (mvY P tl ops i = true → S w') ∧ wpB P lk tl ops S N f (L.setIfInBounds i true) a' w') a w →
        ∃ a', Chk blocks fl ops a' ∧ ∀ t, (∀ k o, ops[k]? = some o → L.getD k true = false → o.dst ≠ some t) → a'.tmps.getD t undef = a.tmps.getD t undef := by
      intro i hi h'
      obtain ⟨h0, o, ho, _⟩ := mem_ready.1 hi
      obtain ⟨a1, w1, h1, hs1⟩ := wpOp_exists ho h'
      obtain ⟨a', hc, hs⟩ := B_ends hN f _ a1 w1 h1.2
      exact ⟨a', hc, fun t ht => (hs t fun k o hk hl => ht k o hk (getD_false hl)).trans (hs1.slot t (ht i o ho h0))⟩
    cases hf : first P lk ops L with
    | some i =>
      simp only [wpB, hf] at h
      exact step i (List.mem_of_find?_eq_some hf) h
    | none =>
      simp only [wpB, hf] at h
      cases hr : Region.ready .any ops L with
      | nil => exact ⟨a, hN a w (h.1 hr), fun _ _ => rfl⟩
      | cons i r => exact step i (by rw [hr]; simp) (h.2 i (by rw [hr]; simp))
/-- what is asked of an operation holds where it is carried out -/
theorem chk_at {E : Array Bool} (hE : Ends blocks fl ops E N) {k : Nat} {o : Oper} (hk : ops[k]? = some o) {l : List Nat} {a : Act} {w : World}
    (hl : asksPlain o = true ∨ k ∈ fl → ∀ k', k' ∈ l ∨ E.getD k' true = false → ∀ o', ops[k']? = some o' → ∀ t ∈ o.looksAt ops, o'.dst ≠ some t) (h : wpF P ops S (mvY P tl ops) N l a w) : plainAt o a.eval = true ∧ (k ∈ fl → FloatAt blocks o a.eval) := by
  obtain ⟨af, wf, hf, hslots⟩ := wpF_exists l a w h
  obtain ⟨ae, hc, hs2⟩ := hE af wf hf
  have hsl : asksPlain o = true ∨ k ∈ fl → ∀ t ∈ o.looksAt ops, ae.tmps.getD t undef = a.tmps.getD t undef := fun hq t ht =>
    (hs2 t fun k' o' hk' he => hl hq k' (.inr he) o' hk' t ht).trans (hslots t fun k' hk' o' ho' => hl hq k' (.inl hk') o' ho' t ht)
  refine ⟨?_, fun hf => floatAt_slots (ops := ops) (hsl (.inr hf)) (hc.2 k hf o hk)⟩
  cases hq : asksPlain o with
  | false => exact plainAt_idle hq _
  | true => rw [← plainAt_slots (ops := ops) (hsl (.inl hq))]; exact hc.1 k o hk

/-- an adjacent pair exchanged -/
theorem swap_at (hmv : ∀ (k : Nat) (o : Oper), ops[k]? = some o → (calmKind P o || roKind P o) = true → mvY P tl ops k = false) {i j : Nat} {oi oj : Oper} (hi : ops[i]? = some oi) (hj : ops[j]? = some oj) (hs : Region.noSelect ops = true) (hok : pairOK P fl (mvY P tl ops) j i oj oi ops = true)
    {l : List Nat} {a : Act} {w : World} (hS : i ∈ fl ∨ j ∈ fl → SameB blocks w0 w)
    (plI : plainAt oi a.eval = true) (plJ : plainAt oj a.eval = true) (flI : i ∈ fl → FloatAt blocks oi a.eval) (flJ : j ∈ fl → FloatAt blocks oj a.eval)
    (h : wpF P ops (SameB blocks w0) (mvY P tl ops) N (j :: i :: l) a w) : wpF P ops (SameB blocks w0) (mvY P tl ops) N (i :: j :: l) a w := by
  simp only [pairOK, Bool.and_eq_true, Bool.or_eq_true, List.contains_eq_mem, decide_eq_true_eq] at hok
  obtain ⟨hap, hk⟩ := hok
  have hap' := apart_comm hap
  have hsi := Region.noSelect_spec hs i oi
  have hsj := Region.noSelect_spec hs j oj
  obtain ⟨g1, g2, g3⟩ := Oper.apart_spec hap
  unfold wpF at h ⊢
  unfold wpF at h ⊢
  rcases hk with (((hk | hk) | ⟨hki, hkj⟩) | ⟨⟨hki, hif⟩, hmj⟩) | ⟨⟨hkj, hjf⟩, hmi⟩
  · obtain ⟨a1, w1, ⟨_, h1⟩, hs1⟩ := wpOp_exists hj h
    have same1 := hs1.same hap (fun cs b => hsi cs b hi)
    have pl1 : plainAt oi a1.eval = true := by
      rw [plainAt_slots (ops := ops) fun t ht => hs1.slot t fun e => g1 t e ht]; exact plI
    obtain ⟨v, hy1, _⟩ := yields_of hi hk pl1 h1
    have hy : Yields P ops oi v a := hy1.of_same same1.1.symm same1.2.symm
    have hkey : ∀ a' w', Form oj a a' → ∀ K : Act → World → Prop, wpOp P ops NP i K a' w' → K (a'.put oi.dst v) w' := by
      intro a' w' hf' K h'
      have same' := hf'.same hap (fun cs b => hsi cs b hi)
      have pl' : plainAt oi a'.eval = true := by
        rw [plainAt_slots (ops := ops) fun t ht => hf'.slot t fun e => g1 t e ht]; exact plI
      obtain ⟨v', hy', hK⟩ := yields_of hi hk pl' h'
      have : v' = v := by
        have hy'' : Yields P ops oi v' a := hy'.of_same same'.1.symm same'.2.symm
        rcases hy with ⟨hw1, hv1⟩ | ⟨hw1, rfl⟩ <;> rcases hy'' with ⟨hw2, hv2⟩ | ⟨hw2, rfl⟩
        · have := (hv1 w).symm.trans (hv2 w); simp at this; exact this.symm
        · rw [hw1] at hw2; cases hw2
        · rw [hw1] at hw2; cases hw2
        · rfl
      rw [this] at hK
      exact hK
    have hmi : mvY P tl ops i = false := hmv i oi hi (by simp [hk])
    refine hy.wpOp hi ⟨fun hm => (by rw [hmi] at hm; cases hm), ?_⟩
    refine wpOp_put' hj hap' (fun cs b => hsj cs b hj) ?_
    refine wpOp_mono (fun a' w' h' => ?_) (wpOp_form hj h)
    exact ⟨h'.2.1, (hkey a' w' h'.1 _ h'.2.2).2⟩
  · obtain ⟨v, hy, h⟩ := yields_of hj hk plJ h
    have := wpOp_put (Q := NP) hi hap (fun cs b => hsj cs b hj) (fun cs b => hsi cs b hi) (fun c a w h => h) hy h.2
    have hmj : mvY P tl ops j = false := hmv j oj hj (by simp [hk])
    exact wpOp_mono (fun a' w' h' => ⟨h'.2.1, h'.1.wpOp hj ⟨fun hm => (by rw [hmj] at hm; cases hm), h'.2.2⟩⟩) this
  · obtain ⟨vj, hyj, h⟩ := ro_yields hj hkj h
    obtain ⟨_, h⟩ := h
    obtain ⟨vi, hyi, h⟩ := ro_yields hi hki h
    rw [execOp_put oi (fun cs b => hsi cs b hi) a oj.dst vj g1, wanted_put oi a oj.dst vj g1] at hyi
    have hmi : mvY P tl ops i = false := hmv i oi hi (by simp [hki])
    have hmj : mvY P tl ops j = false := hmv j oj hj (by simp [hkj])
    refine of_ro_yields hi hyi ⟨fun hm => (by rw [hmi] at hm; cases hm), ?_⟩
    refine of_ro_yields hj (v := vj) ?_ ⟨fun hm => (by rw [hmj] at hm; cases hm), ?_⟩
    · rw [execOp_put oj (fun cs b => hsj cs b hj) a oi.dst vi g3, wanted_put oj a oi.dst vi g3]; exact hyj
    · rw [← Act.put_comm a vj vi g2]; exact h.2
  · have hS := hS (.inl hif)
    obtain ⟨a1, w1, ⟨hS1, h1⟩, hs1⟩ := wpOp_exists hj h
    have hS1 := hS1 hmj
    have fl' : ∀ a', Form oj a a' → FloatAt blocks oi a'.eval := fun a' hf' =>
      floatAt_slots (ops := ops) (fun t ht => (hf'.slot t fun e => g1 t e ht).symm) (flI hif)
    have same1 := hs1.same hap (fun cs b => hsi cs b hi)
    obtain ⟨v, hy1, _⟩ := float_yields hi hki (fl' a1 hs1) hS1 h1
    have hy : YieldsIf P ops (SameB blocks w0) oi v a := hy1.of_same same1.1.symm same1.2.symm
    refine hy.wpOp hi hS ⟨fun _ => hS, ?_⟩
    refine wpOp_put' hj hap' (fun cs b => hsj cs b hj) ?_
    refine wpOp_mono (fun a' w' h' => ?_) (wpOp_form hj h)
    refine ⟨h'.2.1, ?_⟩
    have hS' := h'.2.1 hmj
    have same' := h'.1.same hap (fun cs b => hsi cs b hi)
    obtain ⟨v', hy', hK⟩ := float_yields hi hki (fl' a' h'.1) hS' h'.2.2
    have : v' = v := by
      have hy'' : YieldsIf P ops (SameB blocks w0) oi v' a := hy'.of_same same'.1.symm same'.2.symm
      rcases hy with ⟨hw1, hv1⟩ | ⟨hw1, rfl⟩ <;> rcases hy'' with ⟨hw2, hv2⟩ | ⟨hw2, rfl⟩
      · have := (hv1 w hS).symm.trans (hv2 w hS); simp at this; exact this.symm
      · rw [hw1] at hw2; cases hw2
      · rw [hw1] at hw2; cases hw2
      · rfl
    rw [this] at hK
    exact hK.2
  · have hS := hS (.inr hjf)
    obtain ⟨v, hy, h⟩ := float_yields hj hkj (flJ hjf) hS h
    have := wpOp_putIf (Q := NP) (S := SameB blocks w0) hi hap (fun cs b => hsj cs b hj) (fun cs b => hsi cs b hi) (fun c a w h => h) hy h.2
    exact wpOp_mono (fun a' w' h' => ⟨h'.2.1, h'.1.wpOp hj (h'.2.1 hmi) ⟨fun _ => h'.2.1 hmi, h'.2.2⟩⟩) this

theorem mvY_none (k : Nat) (o : Oper) (hk : ops[k]? = some o) (h : (calmKind P o || roKind P o) = true) : mvY P tl ops k = false := by simp [mvY, hk, h]
/-- a load that floats has not come up yet -/
def Pend (fl : List Nat) (D : Array Bool) : Prop := ∃ f ∈ fl, D.getD f true = false
theorem Pend.of_set {D : Array Bool} {i : Nat} (h : Pend fl (D.setIfInBounds i true)) : Pend fl D := by
  obtain ⟨f, hf, h⟩ := h; exact ⟨f, hf, getD_false h⟩
theorem bubble (ht : altOK P fl tl lk ops m = true) {i : Nat} {s2 : List Nat} {E : Array Bool} (hE : Ends blocks fl ops E N) : ∀ (s1 : List Nat) {D : Array Bool}, D.size = ops.size → Closed ops D → i ∈ Region.ready .any ops D → i ∉ s1 → Run P lk ops D s1 →
    (∀ k, k ∈ s1 ++ i :: s2 ∨ E.getD k true = false → D.getD k true = false) → (s1 ++ i :: s2).Nodup → (∀ k ∈ s1 ++ i :: s2, E.getD k true = true) → ∀ (a : Act) (w : World), (Pend fl D → SameB blocks w0 w) →
    wpF P ops (SameB blocks w0) (mvY P tl ops) N (s1 ++ i :: s2) a w → wpF P ops (SameB blocks w0) (mvY P tl ops) N (i :: (s1 ++ s2)) a w
  | [], _, _, _, _, _, _, _, _, _, _, _, _, h => h
  | j :: s1, D, hs, hc, hi, hn, hr, hU, hnd, hEl, a, w, hS, h => by
    obtain ⟨⟨hsel, _⟩, hm, hpairs, hplain⟩ := altOK_parts ht
    have hij : i ≠ j := by simp at hn; exact hn.1
    obtain ⟨_, oi, hoi, hdi⟩ := mem_ready.1 hi
    obtain ⟨_, oj, hoj, hdj⟩ := mem_ready.1 hr.1
    have hcj : calmKind P oj = true ∨ roKind P oj = true := by
      have := hr.2.1; simp only [like, hoj, Bool.or_eq_true, Bool.and_eq_true] at this
      rcases this with h | h
      · exact .inl h
      · exact .inr h.1
    have hpo := hpairs j oj hoj hr.2.1 i oi hoi hij (no_wait hm hs hc hi hr.1) (no_wait hm hs hc hr.1 hi)
    -- whoever has not come up is not waited for
    have hnw : ∀ (k x : Nat) (ox : Oper), ops[x]? = some ox → (∀ e ∈ ox.after, Region.binds .any e = true → D.getD e.on false = true) → D.getD k true = false → waits m x k = false := by
      intro k x ox hx hd hk
      cases hw : waits m x k with
      | false => rfl
      | true =>
        have h1 := waits_listed hm hc x ox hx hd k hw
        rcases Nat.lt_or_ge k D.size with h' | h'
        · simp [h'] at h1 hk; rw [h1] at hk; cases hk
        · simp [h'] at hk
    have hask : ∀ (x : Nat) (ox : Oper), ops[x]? = some ox → (∀ e ∈ ox.after, Region.binds .any e = true → D.getD e.on false = true) → asksPlain ox = true ∨ x ∈ fl → ∀ k', k' ∈ (j :: s1) ++ i :: s2 ∨ E.getD k' true = false → ∀ o', ops[k']? = some o' → ∀ t ∈ ox.looksAt ops, o'.dst ≠ some t := fun x ox hx hd hq k' hk' o' ho' =>
      hplain x ox hx hq k' o' ho' (hnw k' x ox hx hd (hU k' hk'))
    obtain ⟨plJ, flJ⟩ := chk_at hE hoj (hask j oj hoj hdj) h
    obtain ⟨plI, flI⟩ := chk_at hE hoi (hask i oi hoi hdi) h
    have h' : wpF P ops (SameB blocks w0) (mvY P tl ops) N (j :: (s1 ++ i :: s2)) a w := h
    unfold wpF at h'
    have h2 := keepS (B := Pend fl D) (B' := Pend fl (D.setIfInBounds j true)) hoj (.inr (by rcases hcj with h | h <;> simp [h])) Pend.of_set plJ hS h'
    refine swap_at mvY_none hoi hoj hsel hpo (fun hor => hS (by rcases hor with h | h; exact ⟨i, h, (mem_ready.1 hi).1⟩; exact ⟨j, h, (mem_ready.1 hr.1).1⟩)) plI plJ flI flJ ?_
    unfold wpF
    have hnd' : (s1 ++ i :: s2).Nodup := (List.nodup_cons.1 hnd).2
    have hjn : j ∉ s1 ++ i :: s2 := (List.nodup_cons.1 hnd).1
    refine wpOp_mono (fun a' w' hh => ⟨hh.2.1, bubble ht hE s1 (by simpa using hs) (hc.add hr.1) (ready_more hi hij) (by simp at hn; exact hn.2) hr.2.2 (fun k hk => ?_) hnd' (fun k hk => hEl k (List.mem_cons_of_mem _ hk)) a' w' hh.1 hh.2.2⟩) h2
    have hne : j ≠ k := by
      rintro rfl
      rcases hk with hk | hk
      · exact hjn hk
      · have := hEl j (by simp); rw [this] at hk; cases hk
    rw [getD_set_ne true hne]
    refine hU k ?_
    rcases hk with hk | hk
    · exact .inl (List.mem_cons_of_mem _ hk)
    · exact .inr hk

theorem run_nodup : ∀ (s : List Nat) {D : Array Bool}, D.size = ops.size → Run P lk ops D s → s.Nodup
  | [], _, _, _ => List.nodup_nil
  | j :: s, D, hs, h => by
    refine List.nodup_cons.2 ⟨fun hm => ?_, run_nodup s (by simpa using hs) h.2.2⟩
    have h1 := run_left s h.2.2 j hm
    have hlt := ready_lt hs h.1
    simp [hlt] at h1
theorem mark_get {k : Nat} : ∀ (s : List Nat) {D : Array Bool}, k ∈ s → (mark D s).getD k true = true
  | [], _, hk => by cases hk
  | j :: s, D, hk => by
    show (mark (D.setIfInBounds j true) s).getD k true = true
    by_cases e : k ∈ s
    · exact mark_get s e
    · have : k = j := by
        rcases List.mem_cons.1 hk with h | h
        · exact h
        · exact absurd h e
      subst this
      cases hh : (mark (D.setIfInBounds k true) s).getD k true with
      | true => rfl
      | false =>
        have h1 : (D.setIfInBounds k true).getD k true = false := getD_mark s hh
        rcases Nat.lt_or_ge k D.size with h' | h' <;> simp [h'] at h1
theorem mark_keep {k : Nat} (D : Array Bool) (s : List Nat) (h : (mark D s).getD k true = false) : D.getD k true = false := getD_mark s h

theorem expose {D : Array Bool} {i : Nat} (hi : i ∈ Region.ready .any ops D) {a : Act} {w : World} : ∀ (f : Nat) (s : List Nat), Run P lk ops D s → i ∉ s → wpF P ops S (mvY P tl ops) (wpB P lk tl ops S N f (mark D s)) s a w →
    ∃ s' f', Run P lk ops D s' ∧ i ∉ s' ∧ wpF P ops S (mvY P tl ops) (wpB P lk tl ops S N f' ((mark D s').setIfInBounds i true)) (s' ++ [i]) a w
  | 0, s, _, hn, h => by
    obtain ⟨a', w', h', _⟩ := wpF_exists s a w h
    have := ready_mark s hi hn
    rw [h'.1] at this; cases this
  | f + 1, s, hr, hn, h => by
    cases hfc : first P lk ops (mark D s) with
    | some c =>
      have h1 : wpF P ops S (mvY P tl ops) (wpB P lk tl ops S N f ((mark D s).setIfInBounds c true)) (s ++ [c]) a w := by
        rw [wpF_append]
        exact F_mono (fun a w hh => by simp only [wpB, hfc] at hh; unfold wpF; exact hh) s a w h
      by_cases hci : c = i
      · subst hci; exact ⟨s, f, hr, hn, h1⟩
      · have hcm := List.mem_of_find?_eq_some hfc
        have hck : like P lk ops c = true := by simpa using List.find?_some hfc
        refine expose hi f (s ++ [c]) (run_snoc s hr hcm hck) (by simp [hn]; exact fun e => hci e.symm) ?_
        rw [mark_append]
        exact h1
    | none =>
      refine ⟨s, f, hr, hn, ?_⟩
      rw [wpF_append]
      refine F_mono (fun a w hh => ?_) s a w h
      simp only [wpB, hfc] at hh
      unfold wpF
      exact hh.2 i (ready_mark s hi hn)

theorem wpAny_of_B (ht : altOK P fl tl lk ops m = true) (hN : ∀ a w, N a w → Chk blocks fl ops a) (hNQ : ∀ a w, N a w → Q .normal a w) : ∀ (fuel : Nat) (D : Array Bool) (s : List Nat) (f : Nat) (a : Act) (w : World), D.size = ops.size → (left ops D).length ≤ fuel → Closed ops D → Run P lk ops D s → (Pend fl D → SameB blocks w0 w) →
    wpF P ops (SameB blocks w0) (mvY P tl ops) (wpB P lk tl ops (SameB blocks w0) N f (mark D s)) s a w → wpAny P .any ops Q fuel D a w := by
  have hend : ∀ (D : Array Bool) (s : List Nat) (f : Nat) (a : Act) (w : World), Region.ready .any ops D = [] → Run P lk ops D s → wpF P ops (SameB blocks w0) (mvY P tl ops) (wpB P lk tl ops (SameB blocks w0) N f (mark D s)) s a w → N a w := by
    intro D s f a w hr hrun h
    cases s with
    | cons i s => have := hrun.1; rw [hr] at this; cases this
    | nil =>
      cases f with
      | zero => exact h.2
      | succ f =>
        have hfc : first P lk ops D = none := by simp [first, hr]
        have h' : wpB P lk tl ops (SameB blocks w0) N (f + 1) D a w := h
        simp only [wpB, hfc] at h'
        exact h'.1 hr
  intro fuel
  induction fuel with
  | zero =>
    intro D s f a w hs hl hc hr hS h
    have hre : Region.ready .any ops D = [] := by
      cases hre : Region.ready .any ops D with
      | nil => rfl
      | cons k r =>
        have hk := mem_ready.1 (show k ∈ Region.ready .any ops D by rw [hre]; simp)
        obtain ⟨h0, o, ho, _⟩ := hk
        have : k ∈ left ops D := by simp [left, (Array.getElem?_eq_some_iff.1 ho).1]; simpa using h0
        rw [List.length_eq_zero_iff.1 (Nat.le_zero.1 hl)] at this; cases this
    exact ⟨hre, hNQ _ _ (hend D s f a w hre hr h)⟩
  | succ fuel ih =>
    intro D s f a w hs hl hc hr hS h
    refine ⟨fun hre => hNQ _ _ (hend D s f a w hre hr h), fun i hi => ?_⟩
    have hlt := ready_lt hs hi
    have hleft : (left ops (D.setIfInBounds i true)).length ≤ fuel := by
      have := left_set hs hi
      omega
    have hi0 := (mem_ready.1 hi).1
    obtain ⟨oi, hoi, hdi⟩ := (mem_ready.1 hi).2
    obtain ⟨⟨_, htl⟩, hm, _, hplain⟩ := altOK_parts ht
    have hfin : ∀ (s1 s2 : List Nat) (f : Nat), i ∉ s1 → Run P lk ops D s1 → Run P lk ops (D.setIfInBounds i true) (s1 ++ s2) → (s1 ++ i :: s2).Nodup → (∀ k ∈ s1 ++ i :: s2, D.getD k true = false) →
        wpF P ops (SameB blocks w0) (mvY P tl ops) (wpB P lk tl ops (SameB blocks w0) N f (mark (D.setIfInBounds i true) (s1 ++ s2))) (s1 ++ i :: s2) a w → wpOp P ops Q i (wpAny P .any ops Q fuel (D.setIfInBounds i true)) a w := by
      intro s1 s2 f hn hr1 hr2 hnd hU hh
      have hE := B_ends (P := P) (tl := tl) (lk := lk) (S := SameB blocks w0) (N := N) hN f (mark (D.setIfInBounds i true) (s1 ++ s2))
      have hU' : ∀ k, k ∈ s1 ++ i :: s2 ∨ (mark (D.setIfInBounds i true) (s1 ++ s2)).getD k true = false → D.getD k true = false := fun k hk => by
        rcases hk with hk | hk
        · exact hU k hk
        · exact getD_false (getD_mark _ hk)
      have hEl : ∀ k ∈ s1 ++ i :: s2, (mark (D.setIfInBounds i true) (s1 ++ s2)).getD k true = true := fun k hk => by
        rw [← mark_mid]; exact mark_get _ hk
      have hb := bubble ht hE s1 hs hc hi hn hr1 hU' hnd hEl a w hS hh
      have hask : asksPlain oi = true ∨ i ∈ fl → ∀ k', k' ∈ i :: (s1 ++ s2) ∨ (mark (D.setIfInBounds i true) (s1 ++ s2)).getD k' true = false → ∀ o', ops[k']? = some o' → ∀ t ∈ oi.looksAt ops, o'.dst ≠ some t := fun hq k' hk' o' ho' => by
        refine hplain i oi hoi hq k' o' ho' ?_
        have hk0 : D.getD k' true = false := hU' k' (by
          rcases hk' with hk | hk
          · exact .inl (by simp at hk ⊢; rcases hk with h | h | h <;> simp [h])
          · exact .inr hk)
        cases hw : waits m i k' with
        | false => rfl
        | true =>
          have h1 := waits_listed hm hc i oi hoi hdi k' hw
          rcases Nat.lt_or_ge k' D.size with h' | h'
          · simp [h'] at h1 hk0; rw [h1] at hk0; cases hk0
          · simp [h'] at hk0
      obtain ⟨plI, _⟩ := chk_at hE hoi hask hb
      unfold wpF at hb
      have hb2 := keepS (B := Pend fl D) (B' := Pend fl (D.setIfInBounds i true)) hoi (by
        cases h1 : calmKind P oi
        · cases h2 : roKind P oi
          · cases h3 : tl.contains i
            · exact .inl (by simp only [mvY, hoi, h1, h2, h3]; rfl)
            · refine .inr (.inr (.inr fun ⟨f, hf, hp⟩ => ?_))
              have h1 := waits_listed hm hc i oi hoi hdi f (htl i (by simpa using h3) f hf)
              have h2 := getD_false hp
              rcases Nat.lt_or_ge f D.size with h' | h'
              · simp [h'] at h1 h2; rw [h1] at h2; cases h2
              · simp [h'] at h2
          · exact .inr (.inr (.inl rfl))
        · exact .inr (.inl rfl)) Pend.of_set plI hS hb
      exact wpOp_chg (fun c a w h => (h : False).elim) (fun h => (NP.noOut h).elim) (wpOp_mono (fun a' w' h' => ih _ _ f a' w' (by simpa using hs) hleft (hc.add hi) hr2 h'.1 h'.2.2) hb2)
    by_cases his : i ∈ s
    · obtain ⟨s1, s2, rfl, hn⟩ := split_first s his
      refine hfin s1 s2 f hn (run_prefix s1 _ hr) (run_drop s1 s2 hs hi hn hr) (run_nodup _ hs hr) (run_left _ hr) ?_
      rw [← mark_mid]
      exact h
    · obtain ⟨s', f', hr', hn', h'⟩ := expose hi f s hr his h
      refine hfin s' [] f' hn' hr' (by rw [List.append_nil]; exact run_more s' hn' hr') ?_ ?_ ?_
      · rw [List.nodup_append]
        refine ⟨run_nodup _ hs hr', by simp, fun x hx y hy => ?_⟩
        rw [List.mem_singleton.1 hy]; rintro rfl; exact hn' hx
      · intro k hk
        rcases List.mem_append.1 hk with hk | hk
        · exact run_left _ hr' k hk
        · rw [List.mem_singleton.1 hk]; exact hi0
      · rw [List.append_nil, mark_set]
        exact h'

/-- S is shown behind operation i, but where i is one of the last -/
def Shown (tl : List Nat) (i : Nat) (S : World → Prop) (w : World) : Prop := tl.contains i = true ∨ S w
theorem Shown.same {tl : List Nat} {i : Nat} {S : World → Prop} {w : World} (h : S w) : Shown tl i S w := .inr h
theorem Shown.last {tl : List Nat} {i : Nat} {S : World → Prop} {w : World} (h : tl.contains i = true) : Shown tl i S w := .inl h
theorem Shown.none {tl : List Nat} {i : Nat} {w w0 : World} : Shown tl i (SameB [] w0) w := .inr (fun b hb => by cases hb)
/-- the tree: as in Txt.Tr; each run's first operation by itself -/
def wpTr (P : Program) (blocks fl tl : List Nat) (w0 : World) (l : List Oper) (Q : Exit → Act → World → Prop) : Tr → Act → World → Prop
  | .done, a, w => ((l.all fun o => plainAt o a.eval) = true ∧ LoadsIn blocks l a fl) ∧ Q .normal a w
  | .no, _, _ => True
  | .alt [] _ _, _, _ => False
  | .alt (i :: s) t o, a, w => wpList P l.toArray (SegPost (Shown tl i (SameB blocks w0)) (fun a w => wpList P l.toArray (RunPost (wpTr P blocks fl tl w0 l Q t) Q) (pick l s) a w) Q) (pick l [i]) a w ∧ wpTr P blocks fl tl w0 l Q o a w
/-- the run s is what comes from L on: like operations as they come -/
def runOK (P : Program) (lk : List Nat) (ops : Array Oper) : Array Bool → List Nat → Bool
  | _, [] => true
  | L, i :: s => first P lk ops L == some i && runOK P lk ops (L.setIfInBounds i true) s
mutual
def trOK (P : Program) (lk : List Nat) (ops : Array Oper) : Nat → Array Bool → Tr → Bool
  | 0, _, _ => false
  | f + 1, L, t => first P lk ops L == none && match t with
    | .done => Region.ready .any ops L == []
    | .no => false
    | .alt s t' o => (Tr.alt s t' o).heads == Region.ready .any ops L && altsOK P lk ops f L (.alt s t' o)
def altsOK (P : Program) (lk : List Nat) (ops : Array Oper) : Nat → Array Bool → Tr → Bool
  | 0, _, _ => false
  | _ + 1, _, .no => true
  | _ + 1, _, .done => false
  | f + 1, L, .alt s t o => (match s with
    | [] => false
    | i :: s => runOK P lk ops (L.setIfInBounds i true) s && trOK P lk ops f (mark (L.setIfInBounds i true) s) t) && altsOK P lk ops f L o
end
theorem list_S {l : List Oper} {K : Act → World → Prop} : ∀ (s : List Nat) (a : Act) (w : World), s.all (fun i => !mvY P tl l.toArray i) = true → wpList P l.toArray (RunPost K Q) (pick l s) a w → wpF P l.toArray S (mvY P tl l.toArray) K s a w
  | [], _, _, _, h => h
  | i :: s, a, w, hm, h => by
    simp only [List.all_cons, Bool.and_eq_true, Bool.not_eq_true'] at hm
    unfold wpF
    cases hi : l[i]? with
    | none =>
      have hp : pick l (i :: s) = pick l s := by simp [pick, hi]
      rw [hp] at h
      unfold wpOp
      have : l.toArray[i]? = none := by simpa using hi
      simp only [this]
      exact ⟨(fun h => by rw [hm.1] at h; cases h), list_S s a w hm.2 h⟩
    | some o =>
      have hp : pick l (i :: s) = o :: pick l s := by simp [pick, hi]
      rw [hp] at h
      have hk : l.toArray[i]? = some o := by simpa using hi
      have h1 : wpOp P l.toArray (RunPost K Q) i (wpList P l.toArray (RunPost K Q) (pick l s)) a w := by
        unfold wpOp; simp only [hk]; exact h
      exact wpOp_chg (fun c a w h => (h : False)) (fun ⟨a, w, h⟩ => (h : False).elim) (wpOp_mono (fun a' w' h' => ⟨fun h => (by rw [hm.1] at h; cases h), list_S s a' w' hm.2 h'⟩) h1)
theorem head_S {l : List Oper} {K : Act → World → Prop} {i : Nat} {a : Act} {w : World} (hi : i < l.length) (h : wpList P l.toArray (SegPost (Shown tl i S) K Q) (pick l [i]) a w) : wpOp P l.toArray NP i (fun a' w' => (mvY P tl l.toArray i = true → S w') ∧ K a' w') a w := by
  have hl : l[i]? = some l[i] := List.getElem?_eq_getElem hi
  have hp : pick l [i] = [l[i]] := by simp [pick, hl]
  rw [hp] at h
  have hk : l.toArray[i]? = some l[i] := by rw [List.getElem?_toArray]; exact hl
  have h1 : wpOp P l.toArray (SegPost (Shown tl i S) K Q) i (wpList P l.toArray (SegPost (Shown tl i S) K Q) []) a w := by
    unfold wpOp; simp only [hk]; exact h
  exact wpOp_chg (fun c a w h => (h : False)) (fun ⟨a, w, h⟩ => (h : False).elim) (wpOp_mono (fun a' w' h' => ⟨fun hm => (by
    rcases h'.1 with h | h
    · simp only [mvY, h, Bool.not_true, Bool.false_and] at hm; cases hm
    · exact h), h'.2⟩) h1)
theorem runOK_calm : ∀ (s : List Nat) (L : Array Bool), runOK P lk ops L s = true → s.all (fun i => !mvY P tl ops i) = true
  | [], _, _ => rfl
  | i :: s, L, h => by
    simp only [runOK, Bool.and_eq_true, beq_iff_eq] at h
    have hk : like P lk ops i = true := by simpa using List.find?_some h.1
    simp only [List.all_cons, runOK_calm s _ h.2, Bool.and_true, Bool.not_eq_true']
    cases ho : ops[i]? with
    | none => simp [mvY, ho]
    | some o =>
      simp only [like, ho, Bool.or_eq_true, Bool.and_eq_true] at hk
      exact mvY_none i o ho (by rcases hk with h | h <;> simp [h])
theorem run_B {Q' : Act → World → Prop} : ∀ (s : List Nat) (L : Array Bool) (n : Nat) (a : Act) (w : World), L.size = ops.size → (left ops L).length ≤ n → runOK P lk ops L s = true →
    (∀ n', (left ops (mark L s)).length ≤ n' → ∀ a w, N a w → wpB P lk tl ops S Q' n' (mark L s) a w) → wpF P ops S (mvY P tl ops) N s a w → wpB P lk tl ops S Q' n L a w
  | [], L, n, a, w, _, hn, _, hK, h => hK n hn a w h
  | i :: s, L, n, a, w, hs, hn, hr, hK, h => by
    simp only [runOK, Bool.and_eq_true, beq_iff_eq] at hr
    obtain ⟨hfc, hr⟩ := hr
    have hi : i ∈ Region.ready .any ops L := List.mem_of_find?_eq_some hfc
    have hlt := left_set hs hi
    cases n with
    | zero => omega
    | succ n =>
      simp only [wpB, hfc]
      unfold wpF at h
      exact wpOp_mono (fun a' w' h' => ⟨h'.1, run_B s (L.setIfInBounds i true) n a' w' (by simpa using hs) (by omega) hr hK h'.2⟩) h
def Leaf (blocks fl : List Nat) (l : List Oper) (Q : Exit → Act → World → Prop) : Act → World → Prop := fun a w => ((l.all fun o => plainAt o a.eval) = true ∧ LoadsIn blocks l a fl) ∧ Q .normal a w
mutual
theorem tr_B {l : List Oper} : ∀ (f : Nat) (L : Array Bool) (t : Tr) (n : Nat) (a : Act) (w : World), L.size = l.toArray.size → (left l.toArray L).length ≤ n → trOK P lk l.toArray f L t = true → wpTr P blocks fl tl w0 l Q t a w → wpB P lk tl l.toArray (SameB blocks w0) (Leaf blocks fl l Q) n L a w
  | 0, _, _, _, _, _, _, _, ht, _ => by simp [trOK] at ht
  | f + 1, L, .done, n, a, w, hs, hn, ht, h => by
    simp only [trOK, Bool.and_eq_true, beq_iff_eq] at ht
    obtain ⟨hfc, hr⟩ := ht
    unfold wpTr at h
    cases n with
    | zero => exact ⟨hr, h⟩
    | succ n =>
      simp only [wpB, hfc]
      exact ⟨fun _ => h, fun i hi => by rw [hr] at hi; cases hi⟩
  | f + 1, L, .no, _, _, _, _, _, ht, _ => by simp [trOK] at ht
  | f + 1, L, .alt s t o, n, a, w, hs, hn, ht, h => by
    simp only [trOK, Bool.and_eq_true, beq_iff_eq] at ht
    obtain ⟨hfc, hh, ha⟩ := ht
    have key := alts_B f L (.alt s t o) n a w hs hn ha h
    rw [hh] at key
    have hne : ∃ i, i ∈ Region.ready .any l.toArray L := by
      cases s with
      | nil => cases f <;> simp [altsOK] at ha
      | cons i s => exact ⟨i, by rw [← hh]; simp [Tr.heads]⟩
    obtain ⟨i0, hi0⟩ := hne
    have hlt := left_set hs hi0
    cases n with
    | zero => omega
    | succ n =>
      simp only [wpB, hfc]
      have h1 : Region.ready .any l.toArray L = [] → Leaf blocks fl l Q a w := fun e => by
        rw [e] at hi0; exact absurd hi0 List.not_mem_nil
      exact ⟨h1, fun i hi => key i hi hi n (by have := left_set hs hi; omega)⟩
theorem alts_B {l : List Oper} : ∀ (f : Nat) (L : Array Bool) (t : Tr) (n : Nat) (a : Act) (w : World), L.size = l.toArray.size → (left l.toArray L).length ≤ n → altsOK P lk l.toArray f L t = true → wpTr P blocks fl tl w0 l Q t a w →
    ∀ i ∈ t.heads, i ∈ Region.ready .any l.toArray L → ∀ n', (left l.toArray (L.setIfInBounds i true)).length ≤ n' → wpOp P l.toArray NP i (fun a' w' => (mvY P tl l.toArray i = true → SameB blocks w0 w') ∧ wpB P lk tl l.toArray (SameB blocks w0) (Leaf blocks fl l Q) n' (L.setIfInBounds i true) a' w') a w
  | 0, _, _, _, _, _, _, _, ht, _ => by simp [altsOK] at ht
  | f + 1, L, .done, _, _, _, _, _, ht, _ => by simp [altsOK] at ht
  | f + 1, L, .no, _, _, _, _, _, _, _ => by intro i hi; simp [Tr.heads] at hi
  | f + 1, L, .alt [] t o, _, _, _, _, _, ht, _ => by simp [altsOK] at ht
  | f + 1, L, .alt (j :: s) t o, n, a, w, hs, hn, ht, h => by
    simp only [altsOK, Bool.and_eq_true] at ht
    obtain ⟨⟨hr, htr⟩, ho⟩ := ht
    unfold wpTr at h
    obtain ⟨h1, h2⟩ := h
    intro i hi hir n' hn'
    simp only [Tr.heads, List.mem_cons] at hi
    rcases hi with rfl | hi
    · have hlt : i < l.length := by have := ready_lt hs hir; rw [hs] at this; simpa using this
      have hS := head_S hlt h1
      exact wpOp_mono (fun a' w' h' => ⟨h'.1, run_B s (L.setIfInBounds i true) n' a' w' (by simpa using hs) hn' hr (fun n'' hn'' a w hw => tr_B f _ t n'' a w (by rw [mark_size]; simpa using hs) hn'' htr hw) (list_S s a' w' (runOK_calm s _ hr) h'.2)⟩) hS
    · exact alts_B f L o n a w hs hn ho h2 i hi hir n' hn'
end
/-- **A region that draws its order, by a tree of orders**, where the loads fl read from the blocks, which nobody changes. -/
theorem wp_tree (blocks fl tl lk : List Nat) (s : List Nat) (t : Tr) {id : Nat} {l : List Oper} {a : Act} {w : World} (hm : P.follows .mixedOrders = true) (ht : altOK P fl tl lk l.toArray (Region.before l.toArray) = true)
    (hr : runOK P lk l.toArray (Array.replicate l.length false) s = true) (hT : trOK P lk l.toArray 100 (mark (Array.replicate l.length false) s) t = true)
    (hB : ∀ b ∈ blocks, ∃ c e f, w.heap[b]? = some (.cells c e f))
    (h : wpList P l.toArray (RunPost (wpTr P blocks fl tl w.drew l Q t) Q) (pick l s) a w.drew) : (Code.region id l.toArray true).wp P Q a w := by
  refine wp_region_any hm ?_
  have hS : SameB blocks w.drew w.drew := fun b hb => ⟨hB b hb, rfl⟩
  have hb : wpB P lk tl l.toArray (SameB blocks w.drew) (Leaf blocks fl l Q) l.length (Array.replicate l.length false) a w.drew :=
    run_B s _ _ _ _ (by simp) (Nat.le_trans (List.length_filter_le _ _) (by simp)) hr (fun n' hn' a w hw => tr_B 100 _ t n' a w (by rw [mark_size]; simp) hn' hT hw) (list_S s _ _ (runOK_calm s _ hr) h)
  refine wpAny_of_B (N := Leaf blocks fl l Q) (blocks := blocks) (w0 := w.drew) ht (fun a w h => ⟨fun k o hk => List.all_eq_true.1 h.1.1 o (by simpa using Array.mem_of_getElem? hk), fun k hk o ho => LoadsIn.get fl h.1.2 k hk o (by simpa using ho)⟩) (fun a w h => h.2) _ _ [] l.length _ _ (by simp) (Nat.le_trans (List.length_filter_le _ _) (by simp)) (fun k o ho hk => ?_) trivial (fun _ => hS) (by simpa [mark, wpF] using hb)
  exfalso
  rcases Nat.lt_or_ge k l.length with h' | h' <;> simp [h'] at hk
theorem wpTr_alt {l : List Oper} {i : Nat} {s : List Nat} {t o : Tr} {a : Act} {w : World} (h : wpList P l.toArray (SegPost (Shown tl i (SameB blocks w0)) (fun a w => wpList P l.toArray (RunPost (wpTr P blocks fl tl w0 l Q t) Q) (pick l s) a w) Q) (pick l [i]) a w) (k : wpTr P blocks fl tl w0 l Q o a w) : wpTr P blocks fl tl w0 l Q (.alt (i :: s) t o) a w := ⟨h, k⟩
theorem wpTr_no {l : List Oper} {a : Act} {w : World} : wpTr P blocks fl tl w0 l Q .no a w := trivial
theorem wpTr_done {l : List Oper} {a : Act} {w : World} (h1 : (l.all fun o => plainAt o a.eval) = true) (h2 : LoadsIn blocks l a fl) (h : Q .normal a w) : wpTr P blocks fl tl w0 l Q .done a w := ⟨⟨h1, h2⟩, h⟩
end Go.Txt.Ty
/- A tree of orders, checked with numbers for sets of operations: quick for the kernel where there are many orders. No program in sight. -/
namespace Go.Txt.Tz
open Go Go.Txt Go.Txt.Ty
def maskFrom (m : Nat) : List Nat → Nat
  | [] => m
  | i :: l => maskFrom (m ||| (1 <<< i)) l
theorem testBit_maskFrom (j : Nat) : ∀ (l : List Nat) (m : Nat), (maskFrom m l).testBit j = (m.testBit j || l.contains j)
  | [], m => by simp [maskFrom]
  | i :: l, m => by
    unfold maskFrom
    rw [testBit_maskFrom j l, Nat.testBit_or, Nat.one_shiftLeft, Nat.testBit_two_pow, List.contains_cons]
    by_cases h : i = j
    · subst h; simp
    · have h' : (j == i) = false := by simp; exact fun e => h e.symm
      rw [h']; simp [h]
theorem sub_mask (L : Nat) (l : List Nat) : ((L &&& maskFrom 0 l) == maskFrom 0 l) = l.all (L.testBit ·) := by
  rw [Bool.eq_iff_iff, beq_iff_eq, List.all_eq_true]
  constructor
  · intro h x hx
    have : (L &&& maskFrom 0 l).testBit x = true := by
      rw [h, testBit_maskFrom]; simp [hx]
    rw [Nat.testBit_and, Bool.and_eq_true] at this
    exact this.1
  · intro h
    apply Nat.eq_of_testBit_eq
    intro i
    rw [Nat.testBit_and, testBit_maskFrom]
    by_cases hi : i ∈ l
    · simp [hi, h i hi]
    · simp [hi]
def edges (o : Oper) : List Nat := (o.after.toList.filter (Region.binds .any)).map (·.on)
def depsOf (l : List Oper) : List Nat := l.map fun o => maskFrom 0 (edges o)
/-- what is ready: the places, counted from i -/
def readyN (L : Nat) : Nat → List Nat → List Nat
  | _, [] => []
  | i, d :: ds => if !L.testBit i && ((L &&& d) == d) then i :: readyN L (i + 1) ds else readyN L (i + 1) ds
theorem readyN_eq (L : Nat) : ∀ (ds : List Nat) (i : Nat), readyN L i ds = ((List.range' i ds.length).zip ds).filterMap fun p => if !L.testBit p.1 && ((L &&& p.2) == p.2) then some p.1 else none
  | [], i => rfl
  | d :: ds, i => by
    unfold readyN
    rw [readyN_eq L ds (i + 1)]
    simp only [List.length_cons, List.range'_succ, List.zip_cons_cons, List.filterMap_cons]
    split <;> rename_i h <;> simp [h]
/-- the marks and the number say the same -/
def Rel (n : Nat) (A : Array Bool) (L : Nat) : Prop := A.size = n ∧ ∀ i, i < n → A[i]? = some (L.testBit i)
theorem Rel.set {n : Nat} {A : Array Bool} {L i : Nat} (h : Rel n A L) : Rel n (A.setIfInBounds i true) (L ||| (1 <<< i)) := by
  refine ⟨by simp [h.1], fun j hj => ?_⟩
  rw [Array.getElem?_setIfInBounds, Nat.testBit_or, Nat.one_shiftLeft, Nat.testBit_two_pow]
  by_cases e : i = j
  · subst e; rw [if_pos rfl, if_pos (by rw [h.1]; exact hj)]; simp
  · rw [if_neg e, h.2 j hj]; simp [e]
theorem Rel.mark {n : Nat} : ∀ (s : List Nat) {A : Array Bool} {L : Nat}, Rel n A L → Rel n (mark A s) (maskFrom L s)
  | [], A, L, h => h
  | i :: s, A, L, h => by
    have := Rel.mark s (h.set (i := i))
    simpa [Txt.mark, maskFrom] using this
theorem Rel.start (n : Nat) : Rel n (Array.replicate n false) 0 := ⟨by simp, fun i hi => by simp [hi]⟩
theorem filterMap_range (p : Nat → Nat → Bool) : ∀ (l : List Oper) (i : Nat) (q : Nat → Bool) (g : Oper → Nat), (∀ j (hj : j < l.length), q (i + j) = p (i + j) (g l[j])) →
    (List.range' i l.length).filter q = ((List.range' i (l.map g).length).zip (l.map g)).filterMap fun x => if p x.1 x.2 then some x.1 else none
  | [], i, q, g, h => by simp
  | o :: l, i, q, g, h => by
    have h0 := h 0 (by simp)
    simp only [Nat.add_zero, List.getElem_cons_zero] at h0
    have ih := filterMap_range p l (i + 1) q g (fun j hj => by
      have := h (j + 1) (by simp; omega)
      simp only [List.getElem_cons_succ] at this
      rw [show i + 1 + j = i + (j + 1) by omega]
      exact this)
    simp only [List.length_cons, List.map_cons, List.range'_succ, List.zip_cons_cons, List.filterMap_cons, List.filter_cons, h0]
    rw [ih]
    split <;> rename_i hp <;> simp [hp]
theorem ready_eq {l : List Oper} {A : Array Bool} {L : Nat} (h : Rel l.length A L) (he : (l.all fun o => (edges o).all (· < l.length)) = true) : Region.ready .any l.toArray A = readyN L 0 (depsOf l) := by
  rw [readyN_eq, Region.ready, List.range_eq_range']
  have hs : l.toArray.size = l.length := by simp
  rw [hs]
  refine filterMap_range (fun i d => !L.testBit i && ((L &&& d) == d)) l 0 _ (fun o => maskFrom 0 (edges o)) (fun j hj => ?_)
  have hA : A.getD j true = L.testBit j := by
    rw [Array.getD_eq_getD_getElem?, h.2 j hj]; rfl
  simp only [Nat.zero_add, hA, sub_mask]
  congr 1
  rw [show l.toArray[j]? = some l[j] by simp [hj]]
  simp only [Option.map_some, Option.getD_some]
  have hj' := List.all_eq_true.1 he _ (List.getElem_mem hj)
  rw [Bool.eq_iff_iff]
  simp only [Array.all_eq_true', List.all_eq_true, edges, List.mem_map, List.mem_filter, Bool.or_eq_true, Bool.not_eq_true', Array.mem_toList_iff]
  constructor
  · rintro hh x ⟨e, ⟨hm, hb⟩, rfl⟩
    rcases hh e hm with hn | hl
    · rw [hb] at hn; cases hn
    · have hlt : e.on < l.length := by
        have := List.all_eq_true.1 hj' e.on (by simp only [edges, List.mem_map, List.mem_filter, Array.mem_toList_iff]; exact ⟨e, ⟨hm, hb⟩, rfl⟩)
        simpa using this
      rw [Array.getD_eq_getD_getElem?, h.2 _ hlt] at hl
      exact hl
  · intro hh e hm
    cases hb : Region.binds .any e
    · exact .inl rfl
    · right
      have hlt : e.on < l.length := by
        have := List.all_eq_true.1 hj' e.on (by simp only [edges, List.mem_map, List.mem_filter, Array.mem_toList_iff]; exact ⟨e, ⟨hm, hb⟩, rfl⟩)
        simpa using this
      rw [Array.getD_eq_getD_getElem?, h.2 _ hlt]
      exact hh e.on ⟨e, ⟨hm, hb⟩, rfl⟩
def runN (ds : List Nat) (lm : Nat) : Nat → List Nat → Bool
  | _, [] => true
  | L, i :: s => (readyN L 0 ds).find? (fun i => lm.testBit i) == some i && runN ds lm (L ||| (1 <<< i)) s
def calmN (ds : List Nat) (lm L : Nat) : Bool := (readyN L 0 ds).find? (fun i => lm.testBit i) == none
def altsN (ds : List Nat) (lm : Nat) : Tr → Nat → Bool
  | .no, _ => true
  | .done, _ => false
  | .alt s t o, L => (match s with
    | [] => false
    | i :: s => runN ds lm (L ||| (1 <<< i)) s && calmN ds lm (maskFrom (L ||| (1 <<< i)) s) && (match t with
      | .done => readyN (maskFrom (L ||| (1 <<< i)) s) 0 ds == []
      | .no => false
      | .alt a b c => (Tr.alt a b c).heads == readyN (maskFrom (L ||| (1 <<< i)) s) 0 ds && altsN ds lm t (maskFrom (L ||| (1 <<< i)) s))) && altsN ds lm o L
def nodeN (ds : List Nat) (lm : Nat) (t : Tr) (L : Nat) : Bool := calmN ds lm L && (match t with
  | .done => readyN L 0 ds == []
  | .no => false
  | .alt a b c => (Tr.alt a b c).heads == readyN L 0 ds && altsN ds lm t L)
def ht : Tr → Nat
  | .done => 0
  | .no => 0
  | .alt _ t o => max (ht t) (ht o) + 1
variable {P : Program} {lk : List Nat} {l : List Oper} {lm : Nat}
theorem find_eq {A : Array Bool} {L : Nat} (h : Rel l.length A L) (he : (l.all fun o => (edges o).all (· < l.length)) = true) (hl : ((List.range l.length).all fun i => lm.testBit i == like P lk l.toArray i) = true) : first P lk l.toArray A = (readyN L 0 (depsOf l)).find? (fun i => lm.testBit i) := by
  unfold Ty.first
  rw [← ready_eq h he]
  have hr : ∀ i ∈ Region.ready .any l.toArray A, lm.testBit i = like P lk l.toArray i := fun i hi => by
    have : i < l.length := by
      unfold Region.ready at hi
      have := (List.mem_filter.1 hi).1
      simpa using this
    simpa using List.all_eq_true.1 hl i (List.mem_range.2 this)
  generalize Region.ready .any l.toArray A = R at hr
  induction R with
  | nil => rfl
  | cons i R ih =>
    simp only [List.find?_cons, hr i (by simp)]
    rw [ih (fun j hj => hr j (List.mem_cons_of_mem _ hj))]
theorem runN_ok (he : (l.all fun o => (edges o).all (· < l.length)) = true) (hl : ((List.range l.length).all fun i => lm.testBit i == like P lk l.toArray i) = true) : ∀ (s : List Nat) {A : Array Bool} {L : Nat}, Rel l.length A L → runN (depsOf l) lm L s = true → Ty.runOK P lk l.toArray A s = true
  | [], A, L, _, _ => rfl
  | i :: s, A, L, h, hn => by
    simp only [runN, Bool.and_eq_true, beq_iff_eq] at hn
    simp only [Ty.runOK, Bool.and_eq_true, beq_iff_eq]
    exact ⟨(find_eq h he hl).trans hn.1, runN_ok he hl s h.set hn.2⟩
theorem tree_ok (he : (l.all fun o => (edges o).all (· < l.length)) = true) (hl : ((List.range l.length).all fun i => lm.testBit i == like P lk l.toArray i) = true) : ∀ (t : Tr) (f : Nat), 2 * ht t + 1 ≤ f → 
    (∀ {A : Array Bool} {L : Nat}, Rel l.length A L → nodeN (depsOf l) lm t L = true → Ty.trOK P lk l.toArray f A t = true) ∧
    (∀ {A : Array Bool} {L : Nat}, Rel l.length A L → altsN (depsOf l) lm t L = true → Ty.altsOK P lk l.toArray f A t = true) := by
  intro t
  induction t with
  | done =>
    intro f hf
    obtain ⟨g, rfl⟩ : ∃ g, f = g + 1 := ⟨f - 1, by omega⟩
    refine ⟨fun h hn => ?_, fun h hn => by simp [altsN] at hn⟩
    simp only [nodeN, calmN, Bool.and_eq_true, beq_iff_eq] at hn
    simp only [Ty.trOK, Bool.and_eq_true, beq_iff_eq]
    exact ⟨(find_eq h he hl).trans hn.1, (ready_eq h he).trans hn.2⟩
  | no =>
    intro f hf
    obtain ⟨g, rfl⟩ : ∃ g, f = g + 1 := ⟨f - 1, by omega⟩
    exact ⟨fun h hn => by simp [nodeN] at hn, fun h hn => by simp [Ty.altsOK]⟩
  | alt s t o iht iho =>
    have alts : ∀ (f : Nat), 2 * ht (.alt s t o) ≤ f → ∀ {A : Array Bool} {L : Nat}, Rel l.length A L → altsN (depsOf l) lm (.alt s t o) L = true → Ty.altsOK P lk l.toArray f A (.alt s t o) = true := by
      intro f hf A L h hn
      simp only [ht] at hf
      obtain ⟨g, rfl⟩ : ∃ g, f = g + 1 := ⟨f - 1, by omega⟩
      cases s with
      | nil => simp [altsN] at hn
      | cons i s =>
        simp only [altsN, Bool.and_eq_true] at hn
        simp only [Ty.altsOK, Bool.and_eq_true]
        have hg1 : 2 * ht t + 1 ≤ g := by omega
        have hg2 : 2 * ht o + 1 ≤ g := by omega
        refine ⟨⟨runN_ok he hl s h.set hn.1.1.1, (iht g hg1).1 (Rel.mark s h.set) ?_⟩, (iho g hg2).2 h hn.2⟩
        unfold nodeN
        rw [Bool.and_eq_true]
        exact ⟨hn.1.1.2, hn.1.2⟩
    intro f hf
    refine ⟨fun h hn => ?_, fun h hn => alts f (by omega) h hn⟩
    obtain ⟨g, rfl⟩ : ∃ g, f = g + 1 := ⟨f - 1, by omega⟩
    simp only [nodeN, calmN, Bool.and_eq_true, beq_iff_eq] at hn
    simp only [Ty.trOK, Bool.and_eq_true, beq_iff_eq]
    exact ⟨(find_eq h he hl).trans hn.1, hn.2.1.trans (ready_eq h he).symm, alts g (by omega) h hn.2.2⟩
/-- wp_tree, its tree checked by numbers -/
theorem wp_treeN (blocks fl tl lk : List Nat) (s : List Nat) (t : Tr) (ds : List Nat) (lm : Nat) {id : Nat} {l : List Oper} {a : Act} {w : World} {Q : Exit → Act → World → Prop} (hm : P.follows .mixedOrders = true) (ht' : Ty.altOK P fl tl lk l.toArray (Region.before l.toArray) = true)
    (hd : depsOf l = ds) (he : (l.all fun o => (edges o).all (· < l.length)) = true) (hl : ((List.range l.length).all fun i => lm.testBit i == like P lk l.toArray i) = true)
    (hT : (runN ds lm 0 s && decide (2 * ht t + 1 ≤ 100) && nodeN ds lm t (maskFrom 0 s)) = true)
    (hB : ∀ b ∈ blocks, ∃ c e f, w.heap[b]? = some (.cells c e f))
    (h : wpList P l.toArray (RunPost (Ty.wpTr P blocks fl tl w.drew l Q t) Q) (pick l s) a w.drew) : (Code.region id l.toArray true).wp P Q a w := by
  subst hd
  simp only [Bool.and_eq_true, decide_eq_true_eq] at hT
  exact Ty.wp_tree blocks fl tl lk s t hm ht' (runN_ok he hl s (Rel.start _) hT.1.1) ((tree_ok he hl t 100 hT.1.2).1 (Rel.mark s (Rel.start _)) hT.2) hB h
end Go.Txt.Tz
/- A region that draws its order within a round of a range over a function, by a tree of orders. No program in sight. -/
namespace Go.Txt.Ty
open Go
theorem tree_any {P : Program} {Q : Exit → Act → World → Prop} (blocks fl tl lk : List Nat) (s : List Nat) (t : Tr) {l : List Oper} {a : Act} {w : World} (ht : altOK P fl tl lk l.toArray (Region.before l.toArray) = true)
    (hr : runOK P lk l.toArray (Array.replicate l.length false) s = true) (hT : trOK P lk l.toArray 100 (mark (Array.replicate l.length false) s) t = true)
    (hB : ∀ b ∈ blocks, ∃ c e f, w.heap[b]? = some (.cells c e f))
    (h : wpList P l.toArray (RunPost (wpTr P blocks fl tl w.drew l Q t) Q) (pick l s) a w.drew) : wpAny P .any l.toArray Q l.toArray.size (Array.replicate l.toArray.size false) a { w with drawn := w.drawn + 1 } := by
  have hS : SameB blocks w.drew w.drew := fun b hb => ⟨hB b hb, rfl⟩
  have hb : wpB P lk tl l.toArray (SameB blocks w.drew) (Leaf blocks fl l Q) l.length (Array.replicate l.length false) a w.drew :=
    run_B s _ _ _ _ (by simp) (Nat.le_trans (List.length_filter_le _ _) (by simp)) hr (fun n' hn' a w hw => tr_B 100 _ t n' a w (by rw [mark_size]; simp) hn' hT hw) (list_S s _ _ (runOK_calm s _ hr) h)
  refine wpAny_of_B (N := Leaf blocks fl l Q) (blocks := blocks) (w0 := w.drew) ht (fun a w h => ⟨fun k o hk => List.all_eq_true.1 h.1.1 o (by simpa using Array.mem_of_getElem? hk), fun k hk o ho => LoadsIn.get fl h.1.2 k hk o (by simpa using ho)⟩) (fun a w h => h.2) _ _ [] l.length _ _ (by simp) (Nat.le_trans (List.length_filter_le _ _) (by simp)) (fun k o ho hk => ?_) trivial (fun _ => hS) (by simpa [mark, wpF] using hb)
  exfalso
  rcases Nat.lt_or_ge k l.length with h' | h' <;> simp [h'] at hk
theorem region_round_tree {P : Program} {Q : Exit → Act → World → Prop} {n r : Nat} (blocks fl tl lk : List Nat) (s : List Nat) (t : Tr) {id : Nat} {l : List Oper} {a : Act} {w : World} (hQ : ¬ LetsOut Q) (hd : l.all noDefer = true) (hm : P.follows .mixedOrders = true) (ht : altOK P fl tl lk l.toArray (Region.before l.toArray) = true)
    (hr : runOK P lk l.toArray (Array.replicate l.length false) s = true) (hT : trOK P lk l.toArray 100 (mark (Array.replicate l.length false) s) t = true)
    (hB : ∀ b ∈ blocks, ∃ c e f, w.heap[b]? = some (.cells c e f))
    (h : wpList P l.toArray (RunPost (wpTr P blocks fl tl w.drew l Q t) Q) (pick l s) a w.drew) : (Code.region id l.toArray true).wpIn (Fence.wide.inRound r) n P Q a w := by
  refine wpIn_region_any hm (wpAnyIn_of hQ (fun i o ho => List.all_eq_true.1 hd o (by have := Array.mem_of_getElem? ho; simpa using this)) _ _ _ _ ?_)
  exact tree_any blocks fl tl lk s t ht hr hT hB h
end Go.Txt.Ty
/- Reading: what a slice of structs that came in is. No program in sight. -/
namespace Go.Rd
open Go Go.ChangeShapes Go.WideShapes Go.ChangeAt Go.RowKit Go.Bs Go.Deep Go.Joins
variable {H : Type} {enc : TypeId × Value → H} {P : Program} {W : World}

theorem cells_at {base : Nat} {a : Addr} {n : Nat} {cs : List Value} (h : W.cells? base a n = some cs) : cs.length = n ∧ ∀ j, j < n → W.cell? (a.add j) = cs[j]? := by
  obtain ⟨_, h2, h3⟩ := World.cells?_some h
  exact ⟨h2, h3⟩

/-- a slice of elements of three cells, each read by 'rd' -/
theorem read_slice3 {α : Type} {t e k : Nat} {rd : α → List Value} (hk : P.cellsOf e = k) (hk0 : 0 < k) (ht : P.underlying t = some (.slice e))
    (helem : ∀ (fuel : Nat) (cs : List Value) (x : DataW H × List MemPlace), DataW.trod enc P W 0 (fun _ => true) true fuel e cs = some x → ∃ y : α, cs = rd y)
    {a0 : Option Addr} {len cap : Nat} {d : DataW H} {p : List MemPlace} (h : DataW.Trod enc P W 0 (fun _ => true) true t (.slice a0 len cap) d p) :
    len ≤ cap ∧ cap ≤ maxLen ∧ ∃ l : List α, l.length = len ∧ (0 < len → ∃ b off, a0 = some ⟨b, off, none⟩ ∧ b < W.heap.size ∧ ∀ i (y : α), l[i]? = some y → ∀ j, j < k → W.cell? ⟨b, off + i * k + j, none⟩ = (rd y)[j]?) := by
  obtain ⟨fuel, hf⟩ := h
  rcases open_slice ht hf with ⟨hcs, _⟩ | ⟨a, len', cap', m, n, D, Pl, hcs, _, hl, hm, hmm, _, hel⟩
  · simp [Value.cells] at hcs
    obtain ⟨rfl, rfl, rfl⟩ := hcs
    exact ⟨Nat.le_refl _, Nat.zero_le _, [], rfl, fun h => by omega⟩
  · simp [Value.cells] at hcs
    obtain ⟨rfl, rfl, rfl⟩ := hcs
    simp only [if_true] at hmm
    subst hmm
    have hex : ∀ i, ∃ y : Option α, i < len → ∃ z, y = some z ∧ W.cells? 0 (a.add (i * k)) k = some (rd z) := by
      intro i
      by_cases hi : i < len
      · obtain ⟨cs', h1, h2⟩ := hel i (by omega)
        obtain ⟨y, rfl⟩ := helem _ _ _ h2
        rw [hk] at h1
        exact ⟨some y, fun _ => ⟨y, rfl, h1⟩⟩
      · exact ⟨none, fun h => absurd h hi⟩
    have hex2 : ∀ n, n ≤ len → ∃ l : List α, l.length = n ∧ ∀ i y, l[i]? = some y → W.cells? 0 (a.add (i * k)) k = some (rd y) := by
      intro n
      induction n with
      | zero => intro _; exact ⟨[], rfl, fun i y h => by simp at h⟩
      | succ n ih =>
        intro hn
        obtain ⟨l, hl1, hl2⟩ := ih (by omega)
        obtain ⟨y, hy⟩ := hex n
        obtain ⟨z, rfl, hz⟩ := hy (by omega)
        refine ⟨l ++ [z], by simp [hl1], fun i y h => ?_⟩
        by_cases hi : i < l.length
        · rw [List.getElem?_append_left hi] at h; exact hl2 i y h
        · rw [List.getElem?_append_right (by omega)] at h
          have : i = n := by
            rcases Nat.lt_or_ge (i - l.length) 1 with h' | h'
            · omega
            · simp [List.getElem?_eq_none (show [z].length ≤ i - l.length by simpa using h')] at h
          subst this
          simp [hl1] at h
          rw [← h]; exact hz
    obtain ⟨l, hl1, hl2⟩ := hex2 len (Nat.le_refl _)
    refine ⟨hl, hm, l, hl1, fun h0 => ?_⟩
    obtain ⟨y0, hy0⟩ : ∃ y, l[0]? = some y := ⟨l[0], by simp [hl1, h0]⟩
    have hc0 := (cells_at (hl2 0 y0 hy0)).2 0 hk0
    obtain ⟨b, off, spot⟩ := a
    have hr0 : ∃ v, (rd y0)[0]? = some v := by
      have := (cells_at (hl2 0 y0 hy0)).1
      exact ⟨(rd y0)[0]'(by omega), by simp⟩
    obtain ⟨v0, hv0⟩ := hr0
    rw [hv0] at hc0
    have hspot : spot = none := by simpa [Addr.add] using World.cell?_spot hc0
    subst hspot
    have hb : b < W.heap.size := by simpa [Addr.add] using World.block_lt_of_cell? W _ hc0
    refine ⟨b, off, rfl, hb, fun i y hi j hj => ?_⟩
    have := (cells_at (hl2 i y hi)).2 j hj
    have e : (({ block := b, off := off, spot := none } : Addr).add (i * k)).add j = ⟨b, off + i * k + j, none⟩ := by
      unfold Addr.add
      split <;> split <;> simp_all
    rw [e] at this
    exact this
end Go.Rd
/- Reading slices of elements that may hold slices themselves, as rows of cells. No program in sight. -/
namespace Go.Rd
open Go Go.ChangeShapes Go.WideShapes Go.ChangeAt Go.RowKit Go.Bs Go.Deep Go.Joins Go.Rw Go.Cl
variable {H : Type} {enc : TypeId × Value → H} {P : Program} {W : World}

/-- a slice, of elements each read by rd, with what Rl says -/
theorem read_cs {α : Type} {t e k : Nat} {rd : α → List Value} {Rl : α → Prop} (hk : P.cellsOf e = k) (hk0 : 0 < k) (hrk : ∀ x, (rd x).length = k) (ht : P.underlying t = some (.slice e)) (hone : ∀ y, Rl y → ∀ u ∈ rd y, u.oneCell' = true)
    (helem : ∀ (fuel : Nat) (cs : List Value) (x : DataW H × List MemPlace), DataW.trod enc P W 0 (fun _ => true) true fuel e cs = some x → ∃ y : α, cs = rd y ∧ Rl y)
    {fuel : Nat} {cs : List Value} {x : DataW H × List MemPlace} (h : DataW.trod enc P W 0 (fun _ => true) true fuel t cs = some x) :
    ∃ (v : Value) (l : List α), cs = [v] ∧ Raw [] k W v l.length (l.flatMap rd) ∧ ∀ y ∈ l, Rl y := by
  have hcs : ∃ a len cap, cs = [.slice a len cap] := by
    rcases open_slice ht h with ⟨hcs, _⟩ | ⟨a, len', cap', m, n, D, Pl, hcs, _⟩
    · exact ⟨_, _, _, hcs⟩
    · exact ⟨_, _, _, hcs⟩
  obtain ⟨a0, len, cap, rfl⟩ := hcs
  have hT : DataW.Trod enc P W 0 (fun _ => true) true t (.slice a0 len cap) x.1 x.2 := ⟨fuel, by simpa [Value.cells] using h⟩
  obtain ⟨h1, h2, l, hl, hh⟩ := read_slice3 (α := {y : α // Rl y}) (rd := fun y => rd y.1) hk hk0 ht (fun fuel cs x hx => by
    obtain ⟨y, hy, hr⟩ := helem fuel cs x hx
    exact ⟨⟨y, hr⟩, hy⟩) hT
  refine ⟨_, l.map (·.1), rfl, ?_, fun y hy => ?_⟩
  · refine ⟨by rw [flat_length rd hrk], fun u hu => ?_, a0, cap, by rw [List.length_map, hl], by rw [List.length_map, hl]; exact h1, h2, fun h0 => ?_⟩
    · obtain ⟨y, hy, hu⟩ := List.mem_flatMap.1 hu
      obtain ⟨z, _, rfl⟩ := List.mem_map.1 hy
      exact hone _ z.2 u hu
    · obtain ⟨b, off, rfl, hb, hc⟩ := hh (by rw [List.length_map, hl] at h0; exact h0)
      refine ⟨b, off, rfl, hb, fun hm => (by cases hm), fun j u hj => ?_⟩
      obtain ⟨y, hy, hu, hd, hm, he⟩ := flat_cell rd hrk hk0 hj
      rw [List.getElem?_map] at hy
      cases hz : l[j / k]? with
      | none => rw [hz] at hy; cases hy
      | some z =>
        rw [hz] at hy
        simp only [Option.map_some, Option.some.injEq] at hy
        have := hc (j / k) z hz (j % k) hm
        rw [hy, hu] at this
        rw [show off + j = off + j / k * k + j % k by omega]
        exact this
  · obtain ⟨z, _, rfl⟩ := List.mem_map.1 hy
    exact z.2
/-- .. an argument -/
theorem read_val {α : Type} {t e k : Nat} {rd : α → List Value} {Rl : α → Prop} (hk : P.cellsOf e = k) (hk0 : 0 < k) (hrk : ∀ x, (rd x).length = k) (ht : P.underlying t = some (.slice e)) (hone : ∀ y, Rl y → ∀ u ∈ rd y, u.oneCell' = true)
    (helem : ∀ (fuel : Nat) (cs : List Value) (x : DataW H × List MemPlace), DataW.trod enc P W 0 (fun _ => true) true fuel e cs = some x → ∃ y : α, cs = rd y ∧ Rl y)
    {base : Nat} {v : Value} {d : DataW H} {p : List MemPlace} (hv : Value.okWide P W .any base t v) (h : DataW.Trod enc P W 0 (fun _ => true) true t v d p) :
    ∃ l : List α, Raw [] k W v l.length (l.flatMap rd) ∧ ∀ y ∈ l, Rl y := by
  obtain ⟨a, len, cap, rfl⟩ := okWide_slice ht hv
  obtain ⟨fuel, hf⟩ := h
  obtain ⟨v, l, hcs, h1, h2⟩ := read_cs hk hk0 hrk ht hone helem hf
  simp [Value.cells] at hcs
  subst hcs
  exact ⟨l, h1, h2⟩
theorem byte_wf {n : Int} (h : (Lit.int .u8 n).wf = true) : ∃ b : UInt8, n = b.toNat := by
  have : 0 ≤ n ∧ n ≤ 255 := by simpa [Lit.wf, IntKind.min, IntKind.max, IntKind.signed, IntKind.bits] using h
  exact ⟨UInt8.ofNat n.toNat, by simp; omega⟩
theorem flat_bytes (l : List UInt8) : (l.flatMap fun b => [byteV b]) = bytesV l := by induction l with | nil => rfl | cons b l ih => simp [bytesV] at ih ⊢; exact ih
theorem byte_elem {e : Nat} (he : P.underlying e = some (.int .u8)) (fuel : Nat) (cs : List Value) (x : DataW H × List MemPlace) (h : DataW.trod enc P W 0 (fun _ => true) true fuel e cs = some x) : ∃ y : UInt8, cs = [byteV y] ∧ True := by
  obtain ⟨n, rfl, _, hw⟩ := DataW.trod_int he h
  obtain ⟨b, rfl⟩ := byte_wf hw
  exact ⟨b, rfl, trivial⟩
/-- a []byte among the cells of something -/
theorem read_bytes_cs {t e : Nat} (hk : P.cellsOf e = 1) (ht : P.underlying t = some (.slice e)) (he : P.underlying e = some (.int .u8)) {fuel : Nat} {cs : List Value} {x : DataW H × List MemPlace} (h : DataW.trod enc P W 0 (fun _ => true) true fuel t cs = some x) :
    ∃ (v : Value) (l : List UInt8), cs = [v] ∧ Bytes [] W v l := by
  obtain ⟨v, l, h1, h2, _⟩ := read_cs (rd := fun b => [byteV b]) (Rl := fun _ => True) hk (by omega) (fun _ => rfl) ht (fun y _ u hu => by rw [List.mem_singleton.1 hu]; rfl) (byte_elem he) h
  rw [flat_bytes] at h2
  exact ⟨v, l, h1, h2⟩
theorem read_bytes {t e : Nat} (hk : P.cellsOf e = 1) (ht : P.underlying t = some (.slice e)) (he : P.underlying e = some (.int .u8)) {base : Nat} {v : Value} {d : DataW H} {p : List MemPlace} (hv : Value.okWide P W .any base t v) (h : DataW.Trod enc P W 0 (fun _ => true) true t v d p) :
    ∃ l : List UInt8, Bytes [] W v l := by
  obtain ⟨l, h2, _⟩ := read_val (rd := fun b => [byteV b]) (Rl := fun _ => True) hk (by omega) (fun _ => rfl) ht (fun y _ u hu => by rw [List.mem_singleton.1 hu]; rfl) (byte_elem he) hv h
  rw [flat_bytes] at h2
  exact ⟨l, h2⟩
end Go.Rd
/- Reading a leaf of a struct or an array of any depth out of an argument. No program in sight. -/
namespace Go.Rl
open Go Go.RowKit
variable {H : Type} {enc : TypeId × Value → H} {P : Program} {w : World} {base : Nat} {spare : Nat → Bool} {held : Bool}
/-- the part i of a type: its type and its place -/
def part1 (P : Program) (t : TypeId) (i : Nat) : Option (TypeId × Nat) :=
  match P.underlying t with
  | some (.struct fs) => fs[i]?.map fun f => (f.type, f.offset)
  | some (.array n e) => if i < n then some (e, i * P.cellsOf e) else none
  | _ => none
theorem weightsEach_at {ts : List TypeId} {ds : List (DataW H)} : ∀ {i : Nat} {t : TypeId} {d : DataW H}, ts[i]? = some t → ds[i]? = some d → ∀ n ∈ d.weights P t, n ∈ DataW.weightsEach P ts ds := by
  induction ts generalizing ds with
  | nil => intro i t d h; simp at h
  | cons t' ts ih =>
    intro i t d ht hd n hn
    cases ds with
    | nil => simp at hd
    | cons d' ds =>
      cases i with
      | zero =>
        simp at ht hd
        subst ht; subst hd
        simp [DataW.weightsEach, hn]
      | succ i =>
        simp at ht hd
        simp [DataW.weightsEach, ih ht hd n hn]
theorem weightsAll_at {e : TypeId} {ds : List (DataW H)} : ∀ {i : Nat} {d : DataW H}, ds[i]? = some d → ∀ n ∈ d.weights P e, n ∈ DataW.weightsAll P e ds := by
  induction ds with
  | nil => intro i d h; simp at h
  | cons d' ds ih =>
    intro i d hd n hn
    cases i with
    | zero =>
      simp at hd
      subst hd
      simp [DataW.weightsAll, hn]
    | succ i =>
      simp at hd
      simp [DataW.weightsAll, ih hd n hn]
theorem trod_part {t e : TypeId} {i o fuel : Nat} {cs : List Value} {x : DataW H × List MemPlace} (hp : part1 P t i = some (e, o)) (h : DataW.trod enc P w base spare held fuel t cs = some x) :
    ∃ y m, DataW.trod enc P w base spare held m e ((cs.drop o).take (P.cellsOf e)) = some y ∧ ∀ n ∈ y.1.weights P e, n ∈ x.1.weights P t := by
  unfold part1 at hp
  cases ht : P.underlying t with
  | none => rw [ht] at hp; cases hp
  | some d =>
    rw [ht] at hp
    cases d with
    | struct fs =>
      simp only [Option.map_eq_some_iff] at hp
      obtain ⟨f, hf, he⟩ := hp
      cases he
      obtain ⟨xs, n, _, rfl, _, hlen, hx⟩ := DataW.trod_struct ht h
      have hi : i < xs.length := by
        rw [hlen]
        exact (Array.getElem?_eq_some_iff.1 hf).1
      refine ⟨xs[i], n, (hx i f hf).trans (List.getElem?_eq_getElem hi), fun q hq => ?_⟩
      simp only [DataW.weights, ht]
      refine weightsEach_at (i := i) ?_ ?_ q hq
      · simp [hf]
      · simp [List.getElem?_eq_getElem hi]
    | array k e' =>
      by_cases hk : i < k
      · simp only [hk, if_true, Option.some.injEq, Prod.mk.injEq] at hp
        obtain ⟨rfl, rfl⟩ := hp
        obtain ⟨xs, n, _, rfl, _, hlen, hx⟩ := DataW.trod_array ht h
        have hi : i < xs.length := by omega
        refine ⟨xs[i], n, (hx i hk).trans (List.getElem?_eq_getElem hi), fun q hq => ?_⟩
        simp only [DataW.weights, ht]
        refine weightsAll_at (i := i) ?_ q hq
        simp [List.getElem?_eq_getElem hi]
      · simp [hk] at hp
    | _ => simp at hp
/-- the leaf at a path -/
def leafAt (P : Program) : TypeId → List Nat → Option (TypeId × Nat)
  | t, [] => some (t, 0)
  | t, i :: r => match part1 P t i with
    | some (e, o) => (leafAt P e r).map fun q => (q.1, o + q.2)
    | none => none
/-- the places of the leaves lie within the parts that hold them -/
def fitAt (P : Program) : TypeId → List Nat → Bool
  | _, [] => true
  | t, i :: r => match part1 P t i with
    | some (e, _) => (match leafAt P e r with | some q => decide (q.2 + P.cellsOf q.1 ≤ P.cellsOf e) | none => false) && fitAt P e r
    | none => false
theorem trod_leaf : ∀ (path : List Nat) {t e : TypeId} {o fuel : Nat} {cs : List Value} {x : DataW H × List MemPlace}, leafAt P t path = some (e, o) → fitAt P t path = true → cs.length ≤ P.cellsOf t → DataW.trod enc P w base spare held fuel t cs = some x →
    ∃ y m, DataW.trod enc P w base spare held m e ((cs.drop o).take (P.cellsOf e)) = some y ∧ ∀ n ∈ y.1.weights P e, n ∈ x.1.weights P t
  | [], t, e, o, fuel, cs, x, hl, _, hc, h => by
    simp only [leafAt, Option.some.injEq, Prod.mk.injEq] at hl
    obtain ⟨rfl, rfl⟩ := hl
    exact ⟨x, fuel, by rw [List.drop_zero, List.take_of_length_le hc]; exact h, fun n hn => hn⟩
  | i :: r, t, e, o, fuel, cs, x, hl, hf, hc, h => by
    unfold leafAt at hl
    unfold fitAt at hf
    cases hp : part1 P t i with
    | none => rw [hp] at hl; cases hl
    | some q =>
      obtain ⟨e1, o1⟩ := q
      rw [hp] at hl hf
      simp only [Option.map_eq_some_iff] at hl
      obtain ⟨⟨e2, o2⟩, hq, hqe⟩ := hl
      simp only [Prod.mk.injEq] at hqe
      obtain ⟨rfl, rfl⟩ := hqe
      simp only [hq, Bool.and_eq_true, decide_eq_true_eq] at hf
      obtain ⟨y, m, hy, hw⟩ := trod_part hp h
      have hlen : ((cs.drop o1).take (P.cellsOf e1)).length ≤ P.cellsOf e1 := List.length_take_le _ _
      obtain ⟨y2, m2, hy2, hw2⟩ := trod_leaf r hq hf.2 hlen hy
      refine ⟨y2, m2, ?_, fun n hn => hw n (hw2 n hn)⟩
      rw [← hy2]
      congr 1
      rw [List.drop_take, List.take_take, List.drop_drop]
      congr 1
      have := hf.1
      omega
end Go.Rl
/- Sorted, compacted and shortened rows of a call's own (one cell an element): what the library's contracts leave, as rows. No program in sight. -/
namespace Go.So
open Go Go.RowKit Go.Bs Go.Cl Go.Rw Go.Sort
variable {α : Type} [Inhabited α]
theorem heap_put (enc : α → Value) {w : World} {g e : Nat} {cur : Array Value} {fr : Nat × Nat} (h : w.heap[g]? = some (.cells cur e fr)) (q : Nat) (os : Array Obj) (d : Array α) :
    (grow (putRow enc (Sort.ahead w q) g 0 d) os).heap[g]? = some (.cells (putCells enc 0 d cur) e fr) := by
  have hlt := (Array.getElem?_eq_some_iff.1 h).1
  simp only [grow, putRow, mapBlock, Sort.ahead]
  rw [Array.getElem?_append_left (by simpa using hlt), Array.getElem?_modify, if_pos rfl, h]
  rfl
theorem keep_put (enc : α → Value) (w : World) (g q : Nat) (os : Array Obj) (d : Array α) : Keep [g] w (grow (putRow enc (Sort.ahead w q) g 0 d) os) where
  os := rfl
  tape := rfl
  output := rfl
  size := by simp [grow, putRow, mapBlock, Sort.ahead]
  block := fun k hk hn => by
    simp only [grow, putRow, mapBlock, Sort.ahead]
    rw [Array.getElem?_append_left (by simpa using hk), Array.getElem?_modify, if_neg (fun e => hn (by simp [e]))]
theorem putCells_size (enc : α → Value) (d : Array α) (c : Array Value) : (putCells enc 0 d c).size = c.size := by simp [putCells]
theorem putCells_take (enc : α → Value) (l : List α) (c : Array Value) (h : l.length ≤ c.size) : (putCells enc 0 l.toArray c).toList.take l.length = l.map enc := by
  apply List.ext_getElem?
  intro i
  rw [List.getElem?_take]
  by_cases hi : i < l.length
  · rw [if_pos hi, Array.getElem?_toList, putCells, Array.getElem?_mapIdx, Array.getElem?_eq_getElem (by omega), Option.map_some, if_pos ⟨by omega, by simpa using hi⟩, List.getElem?_map, List.getElem?_eq_getElem hi]
    simp [hi]
  · rw [if_neg hi]
    simp [List.getElem?_eq_none (show l.length ≤ i by omega)]
/-- a row of one's own, its cells written over -/
theorem own_put (enc : α → Value) {w : World} {base e g cap n : Nat} {xs : List Value} (h : w.ownsRow base e 1 (.slice (some ⟨g, 0, none⟩) n cap) n xs) (l : List α) (hl : l.length = n) (q : Nat) (os : Array Obj) :
    (grow (putRow enc (Sort.ahead w q) g 0 l.toArray) os).ownsRow base e 1 (.slice (some ⟨g, 0, none⟩) n cap) n (l.map enc) := by
  obtain ⟨h1, h2⟩ := h
  refine ⟨by simp [hl], ?_⟩
  rcases h2 with ⟨h2, _⟩ | ⟨g', cap', cur, hv, hb, hg, hn, hcm, hcs, ht⟩
  · cases h2
  · cases hv
    refine .inr ⟨g, cap, _, rfl, hb, heap_put enc hg q os _, hn, hcm, by rw [putCells_size]; exact hcs, ?_⟩
    have := putCells_take enc l cur (by omega)
    rw [← this, hl, Nat.mul_one]
/-- .. cut to m elements -/
theorem own_cut {w : World} {base e g cap n : Nat} {xs : List Value} (h : w.ownsRow base e 1 (.slice (some ⟨g, 0, none⟩) n cap) n xs) {m : Nat} (hm : m ≤ n) : w.ownsRow base e 1 (.slice (some ⟨g, 0, none⟩) m cap) m (xs.take m) := by
  obtain ⟨h1, h2⟩ := h
  refine ⟨by rw [List.length_take, h1]; omega, ?_⟩
  rcases h2 with ⟨h2, _⟩ | ⟨g', cap', cur, hv, hb, hg, hn, hcm, hcs, ht⟩
  · cases h2
  · cases hv
    refine .inr ⟨g, cap, cur, rfl, hb, hg, by omega, hcm, hcs, ?_⟩
    rw [← ht, List.take_take]
    congr 1; omega
theorem holds_own (enc : α → Value) {w : World} {base e g cap n : Nat} {l : List α} (h : w.ownsRow base e 1 (.slice (some ⟨g, 0, none⟩) n cap) n (l.map enc)) : Holds enc w g 0 l.toArray := by
  intro j hj
  have hj' : j < l.length := by simpa using hj
  refine ⟨?_, by rw [Nat.zero_add]; exact own_frozen h j⟩
  rw [Nat.zero_add, own_cell h rfl (u := enc l[j]) (by simp [hj'])]
  simp [hj']
/-- what slices.Compact leaves -/
theorem own_compact (enc : α → Value) [DecidableEq α] {w : World} {base e g cap n : Nat} {xs : List Value} (h : w.ownsRow base e 1 (.slice (some ⟨g, 0, none⟩) n cap) n xs) (l : List α) (k : Nat) (z : α) (hl : l.length + k = n) (q : Nat) (os : Array Obj) :
    (grow (putRow enc (Sort.ahead w q) g 0 (l ++ List.replicate k z).toArray) os).ownsRow base e 1 (.slice (some ⟨g, 0, none⟩) l.length cap) l.length (l.map enc) := by
  have := own_cut (own_put enc h (l ++ List.replicate k z) (by simp [hl]) q os) (m := l.length) (by omega)
  rwa [List.map_append, List.take_append_of_le_length (by simp), List.take_of_length_le (by simp)] at this
end Go.So
