/- Slices as rows of cells, with the blocks that may change; laws for append, copy, make and string conversions on them. No program in sight. -/
import Derived.Test.YtlomhelcphhinaaIn
import Derived.Laws.BytesArg
import Derived.Laws.MakeOwn
namespace Go.Rw
open Go Go.RowKit Go.Bs Go.Cl

/-- w' is w with new blocks; of the old ones only those of F may have changed -/
structure Keep (F : List Nat) (w w' : World) : Prop where
  os : w'.os = w.os
  tape : w'.tape = w.tape
  output : w'.output = w.output
  size : w.heap.size ≤ w'.heap.size
  block : ∀ k, k < w.heap.size → k ∉ F → w'.heap[k]? = w.heap[k]?
theorem Keep.refl (F : List Nat) (w : World) : Keep F w w := ⟨rfl, rfl, rfl, Nat.le_refl _, fun _ _ _ => rfl⟩
theorem Keep.trans {F F' : List Nat} {a b c : World} (h : Keep F a b) (k : Keep F' b c) (hF : ∀ f ∈ F', f ∈ F ∨ a.heap.size ≤ f) : Keep F a c :=
  ⟨k.os.trans h.os, k.tape.trans h.tape, k.output.trans h.output, Nat.le_trans h.size k.size, fun i hi hn => (k.block i (Nat.lt_of_lt_of_le hi h.size) (fun hm => by
    rcases hF i hm with h1 | h1
    · exact hn h1
    · omega)).trans (h.block i hi hn)⟩
theorem Keep.mono {F F' : List Nat} {a b : World} (h : Keep F a b) (hF : ∀ f ∈ F, f ∈ F' ∨ a.heap.size ≤ f) : Keep F' a b :=
  ⟨h.os, h.tape, h.output, h.size, fun i hi hn => h.block i hi fun hm => by
    rcases hF i hm with h1 | h1
    · exact hn h1
    · omega⟩
theorem Keep.of_below {F : List Nat} {B : Nat} {a b : World} (h : Below B a b) (hB : ∀ k, k < a.heap.size → k ∉ F → k < B) : Keep F a b := ⟨h.os, h.tape, h.output, h.size, fun i hi hn => h.block i (hB i hi hn)⟩
theorem Keep.of_below' {F : List Nat} {a b : World} (h : Below a.heap.size a b) : Keep F a b := Keep.of_below h fun _ h _ => h
theorem Keep.of_grown {F : List Nat} {a b : World} {r : Option Nat} (h : a.grownBy b r) (hr : ∀ k, r = some k → k ∈ F ∨ a.heap.size ≤ k) : Keep F a b :=
  ⟨h.os, h.tape, h.output, h.size, fun i hi hn => h.block i hi fun e => by
    rcases hr i e.symm with h1 | h1
    · exact hn h1
    · omega⟩
theorem Keep.below {F : List Nat} {a b : World} (h : Keep F a b) {B : Nat} (hB : B ≤ a.heap.size) (hF : ∀ f ∈ F, B ≤ f) : Below B a b :=
  ⟨h.os, h.tape, h.output, h.size, fun k hk => h.block k (by omega) fun hm => by have := hF k hm; omega⟩
theorem Keep.drew {F : List Nat} {a b : World} (h : Keep F a b) : Keep F a b.drew := ⟨h.os, h.tape, h.output, h.size, h.block⟩
theorem Keep.alloc {F : List Nat} {a b : World} (h : Keep F a b) (o : Obj) : Keep F a (b.alloc o) :=
  h.trans (F' := []) ⟨rfl, rfl, rfl, by simp, fun k hk _ => Below.heap_alloc _ _ _ hk⟩ (fun f hf => by cases hf)
theorem Keep.setCell {F : List Nat} {a b : World} (h : Keep F a b) {p : Addr} (hp : p.block ∈ F ∨ a.heap.size ≤ p.block) (u : Value) : Keep F a (b.setCell p u) :=
  h.trans (F' := [p.block]) ⟨rfl, rfl, rfl, by simp [World.setCell], fun k _ hk => Below.heap_setCell _ _ _ _ (by simpa using hk)⟩ (fun f hf => by rw [List.mem_singleton.1 hf]; exact hp)
theorem Keep.cell {F : List Nat} {w w' : World} (h : Keep F w w') {b o : Nat} (hb : b < w.heap.size) (hF : b ∉ F) : w'.cell? ⟨b, o, none⟩ = w.cell? ⟨b, o, none⟩ := World.cell?_of_block (w := w) (h.block b hb hF)
theorem Keep.froz {F : List Nat} {w w' : World} (h : Keep F w w') {b o : Nat} (hb : b < w.heap.size) (hF : b ∉ F) : w'.frozen? ⟨b, o, none⟩ = w.frozen? ⟨b, o, none⟩ := World.frozen?_of_block (w := w) (h.block b hb hF)

/-- v is a slice of n elements of k cells each; xs are the cells; they lie in a block outside of F -/
def Raw (F : List Nat) (k : Nat) (w : World) (v : Value) (n : Nat) (xs : List Value) : Prop :=
  xs.length = n * k ∧ (∀ u ∈ xs, u.oneCell' = true) ∧ ∃ a cap, v = .slice a n cap ∧ n ≤ cap ∧ cap ≤ maxLen ∧ (0 < n → ∃ b off, a = some ⟨b, off, none⟩ ∧ b < w.heap.size ∧ b ∉ F ∧ ∀ j u, xs[j]? = some u → w.cell? ⟨b, off + j, none⟩ = some u)
variable {F : List Nat} {k : Nat} {w : World} {v : Value} {n : Nat} {xs : List Value}
theorem Raw.len (h : Raw F k w v n xs) : xs.length = n * k := h.1
theorem Raw.one (h : Raw F k w v n xs) : ∀ u ∈ xs, u.oneCell' = true := h.2.1
theorem Raw.cases (h : Raw F k w v n xs) : (n = 0 ∧ xs = [] ∧ ∃ a cap, v = .slice a 0 cap ∧ cap ≤ maxLen) ∨ (0 < n ∧ ∃ b off cap, v = .slice (some ⟨b, off, none⟩) n cap ∧ n ≤ cap ∧ cap ≤ maxLen ∧ b < w.heap.size ∧ b ∉ F ∧ ∀ j u, xs[j]? = some u → w.cell? ⟨b, off + j, none⟩ = some u) := by
  obtain ⟨h1, _, a, cap, rfl, h2, h3, h4⟩ := h
  by_cases h0 : 0 < n
  · obtain ⟨b, off, rfl, h5⟩ := h4 h0
    exact .inr ⟨h0, b, off, cap, rfl, h2, h3, h5⟩
  · obtain rfl : n = 0 := by omega
    exact .inl ⟨rfl, List.eq_nil_of_length_eq_zero (by simpa using h1), a, cap, rfl, h3⟩
theorem Raw.keep {F' G : List Nat} {w' : World} (h : Raw F k w v n xs) (hk : Keep G w w') (hG : ∀ f ∈ G, f ∈ F ∨ w.heap.size ≤ f) (hF : ∀ f ∈ F', f ∈ F ∨ w.heap.size ≤ f) : Raw F' k w' v n xs := by
  obtain ⟨h1, ho, a, cap, rfl, h2, h3, h4⟩ := h
  refine ⟨h1, ho, a, cap, rfl, h2, h3, fun h0 => ?_⟩
  obtain ⟨b, off, rfl, h5, h6, h7⟩ := h4 h0
  have hb : ∀ L : List Nat, (∀ f ∈ L, f ∈ F ∨ w.heap.size ≤ f) → b ∉ L := fun L hL hm => by
    rcases hL b hm with h | h
    · exact h6 h
    · omega
  exact ⟨b, off, rfl, Nat.lt_of_lt_of_le h5 hk.size, hb F' hF, fun j u hj => (hk.cell h5 (hb G hG)).trans (h7 j u hj)⟩
theorem Raw.below {w' : World} (h : Raw F k w v n xs) (hb : Below w.heap.size w w') : Raw F k w' v n xs :=
  h.keep (G := []) (Keep.of_below' hb) (fun f hf => by cases hf) (fun f hf => .inl hf)
theorem Raw.to_nil (h : Raw F k w v n xs) : Raw [] k w v n xs := h.keep (Keep.refl [] w) (fun f hf => by cases hf) (fun f hf => by cases hf)
theorem Raw.fresh {F' : List Nat} (h : Raw F k w v n xs) (hF : ∀ f ∈ F', f ∈ F ∨ w.heap.size ≤ f) : Raw F' k w v n xs := h.keep (Keep.refl F w) (fun f hf => .inl hf) hF
theorem Raw.drew (h : Raw F k w v n xs) : Raw F k w.drew v n xs := h
theorem Raw.alloc (h : Raw F k w v n xs) (o : Obj) : Raw F k (w.alloc o) v n xs := h.below ((Below.refl w.heap.size w).alloc (Nat.le_refl _) o)
theorem Raw.of_own {base e : Nat} (h : w.ownsRow base e k v n xs) (h1 : ∀ u ∈ xs, u.oneCell' = true) (hF : ∀ f ∈ F, f < base) : Raw F k w v n xs := by
  refine ⟨h.1, h1, ?_⟩
  rcases own_cases h with ⟨rfl, rfl, rfl⟩ | ⟨g, cap, rfl, hb, hlt, hc⟩
  · exact ⟨none, 0, rfl, Nat.le_refl _, Nat.zero_le _, fun h0 => absurd h0 (Nat.lt_irrefl _)⟩
  · have hm : cap ≤ maxLen := by
      rcases h.2 with ⟨h', _⟩ | ⟨g', cap', cur, hv, _, _, _, hm, _⟩
      · cases h'
      · cases hv; exact hm
    refine ⟨some ⟨g, 0, none⟩, cap, rfl, hc, hm, fun _ => ⟨g, 0, rfl, hlt, fun hm => by have := hF g hm; omega, fun j u hj => ?_⟩⟩
    rw [Nat.zero_add]; exact own_cell h rfl hj
theorem own_slice {base e : Nat} (h : w.ownsRow base e k v n xs) : ∃ a c, v = .slice a n c := by
  rcases own_cases h with ⟨rfl, rfl, _⟩ | ⟨g, cap, rfl, _⟩
  · exact ⟨_, _, rfl⟩
  · exact ⟨_, _, rfl⟩
theorem Raw.slice (h : Raw F k w v n xs) : ∃ a c, v = .slice a n c := by
  obtain ⟨_, _, a, c, h, _⟩ := h; exact ⟨a, c, h⟩
theorem Raw.empty (F : List Nat) (k : Nat) (w : World) : Raw F k w (.slice none 0 0) 0 [] := ⟨by simp, fun _ h => (by cases h), none, 0, rfl, Nat.le_refl _, Nat.zero_le _, fun h => absurd h (Nat.lt_irrefl _)⟩
theorem Raw.zero (F : List Nat) (k : Nat) (w : World) (a : Option Addr) (cap : Nat) (h : cap ≤ maxLen) : Raw F k w (.slice a 0 cap) 0 [] := ⟨by simp, fun _ h => (by cases h), a, cap, rfl, Nat.zero_le _, h, fun h => absurd h (Nat.lt_irrefl _)⟩
theorem Raw.zero' (F : List Nat) (k : Nat) (w : World) (a : Option Addr) (cap m : Nat) (hm : m = 0) (h : cap ≤ maxLen) : Raw F k w (.slice a m cap) m [] := by subst hm; exact Raw.zero F k w a cap h
/-- a block of cells, looked at as a slice -/
theorem Raw.of_block {g m cap : Nat} {ys : List Value} {t : TypeId} {fz : Nat × Nat} (h : w.heap[g]? = some (.cells ys.toArray t fz)) (hF : g ∉ F) (h1 : ∀ u ∈ ys, u.oneCell' = true) (hl : ys.length = m * k) (hc : m ≤ cap) (hm : cap ≤ maxLen) : Raw F k w (.slice (some ⟨g, 0, none⟩) m cap) m ys := by
  refine ⟨hl, h1, _, cap, rfl, hc, hm, fun _ => ⟨g, 0, rfl, (Array.getElem?_eq_some_iff.1 h).1, hF, fun j u hj => ?_⟩⟩
  rw [Nat.zero_add]; simp [World.cell?, h]; simpa using hj
theorem Raw.take {m cap : Nat} {a : Option Addr} (h : Raw F k w (.slice a n cap) n xs) (hm : m ≤ n) {c : Nat} (hc1 : m ≤ c) (hc2 : c ≤ cap) : Raw F k w (.slice a m c) m (xs.take (m * k)) := by
  obtain ⟨h1, ho, a', cap', hv, h2, h3, h4⟩ := h
  cases hv
  refine ⟨by rw [List.length_take, h1]; exact Nat.min_eq_left (Nat.mul_le_mul_right _ hm), fun u hu => ho u (List.mem_of_mem_take hu), a, c, rfl, hc1, Nat.le_trans hc2 h3, fun h0 => ?_⟩
  obtain ⟨b, off, rfl, h5, h6, h7⟩ := h4 (by omega)
  refine ⟨b, off, rfl, h5, h6, fun j u hj => h7 j u ?_⟩
  rw [List.getElem?_take] at hj
  split at hj
  · exact hj
  · cases hj
/-- the rest behind m elements -/
theorem Raw.drop {m b off cap : Nat} (h : Raw F k w (.slice (some ⟨b, off, none⟩) n cap) n xs) (hm : m < n) {n' c : Nat} (hn : n' = n - m) (hc : c = cap - m) {off' : Nat} (ho : off' = off + m * k) : Raw F k w (.slice (some ⟨b, off', none⟩) n' c) n' (xs.drop (m * k)) := by
  obtain ⟨h1, h1', a', cap', hv, h2, h3, h4⟩ := h
  cases hv
  subst hn; subst hc; subst ho
  obtain ⟨b', off', e, h5, h6, h7⟩ := h4 (by omega)
  cases e
  refine ⟨by rw [List.length_drop, h1, Nat.sub_mul], fun u hu => h1' u (List.mem_of_mem_drop hu), _, _, rfl, by omega, by omega, fun _ => ⟨b, _, rfl, h5, h6, fun j u hj => ?_⟩⟩
  rw [Nat.add_assoc]
  refine h7 (m * k + j) u ?_
  rwa [List.getElem?_drop] at hj
theorem Raw.at {b off cap : Nat} (h : Raw F k w (.slice (some ⟨b, off, none⟩) n cap) n xs) {j : Nat} {u : Value} (hj : xs[j]? = some u) : w.cell? ⟨b, off + j, none⟩ = some u := by
  have hl := h.1
  have hlt : j < xs.length := (List.getElem?_eq_some_iff.1 hj).1
  rcases h.cases with ⟨rfl, rfl, _⟩ | ⟨_, b', off', cap', hv, _, _, _, _, hc⟩
  · cases hj
  · cases hv; exact hc j u hj

/-! bytes -/
def byteV (b : UInt8) : Value := .int .u8 b.toNat
def bytesV (l : List UInt8) : List Value := l.map byteV
theorem bytesV_len (l : List UInt8) : (bytesV l).length = l.length := by simp [bytesV]
theorem bytesV_one (l : List UInt8) : ∀ u ∈ bytesV l, u.oneCell' = true := by
  intro u hu
  obtain ⟨x, _, rfl⟩ := List.mem_map.1 hu
  rfl
theorem bytesV_append (a b : List UInt8) : bytesV (a ++ b) = bytesV a ++ bytesV b := by simp [bytesV]
theorem bytesV_take (a : List UInt8) (n : Nat) : (bytesV a).take n = bytesV (a.take n) := by simp [bytesV]
theorem bytesV_drop (a : List UInt8) (n : Nat) : (bytesV a).drop n = bytesV (a.drop n) := by simp [bytesV]
/-- v reads as the bytes l -/
def Bytes (F : List Nat) (w : World) (v : Value) (l : List UInt8) : Prop := Raw F 1 w v l.length (bytesV l)
theorem Bytes.mk {l : List UInt8} (h : Raw F 1 w v n (bytesV l)) (hn : n = l.length) : Bytes F w v l := by subst hn; exact h
theorem Bytes.row {base e : Nat} {l : List UInt8} (h : w.ownsRow base e 1 v n (bytesV l)) (hn : n = l.length) (hF : ∀ f ∈ F, f < base) : Bytes F w v l := by subst hn; exact Raw.of_own h (bytesV_one l) hF
theorem Bytes.sub {a : Option Addr} {cap lo hi : Nat} {l : List UInt8} (h : Bytes F w (.slice a n cap) l) (h1 : lo ≤ hi) (h2 : hi ≤ l.length) : Raw F 1 w (.slice (a.map fun x => x.add lo) (hi - lo) (cap - lo)) (hi - lo) (bytesV ((l.take hi).drop lo)) := by
  obtain ⟨g1, g2, a', c', hv, g3, g4, g5⟩ := h
  cases hv
  refine ⟨by simp [bytesV]; omega, bytesV_one _, _, _, rfl, by omega, by omega, fun h0 => ?_⟩
  obtain ⟨b, off, rfl, q1, q2, q3⟩ := g5 (by omega)
  refine ⟨b, off + lo, by simp [Addr.add_lit], q1, q2, fun j u hj => ?_⟩
  rw [Nat.add_assoc]
  apply q3
  rw [← bytesV_drop, ← bytesV_take, List.getElem?_drop, List.getElem?_take] at hj
  split at hj
  · exact hj
  · cases hj
def strOf (l : List UInt8) : ByteArray := ⟨l.toArray⟩
theorem strOf_inj {a b : List UInt8} (h : strOf a = strOf b) : a = b := by
  have := congrArg (fun x : ByteArray => x.data.toList) h
  simpa [strOf] using this
theorem strOf_nums (l : List UInt8) : strOfNums (l.map fun b => (b.toNat : Int)) = strOf l := by
  unfold strOfNums strOf
  congr 2
  rw [List.map_map]
  have : ((fun n : Int => UInt8.ofNat n.toNat) ∘ fun b : UInt8 => (b.toNat : Int)) = id := by
    funext b; simp
  rw [this]; simp
theorem run_str {P : Program} {l : List UInt8} (h : Bytes F w v l) (src e dst : TypeId) (hs : P.underlying src = some (.slice e)) (he : P.underlying e = some (.int .u8)) (hd : P.underlying dst = some .string) :
    (convert src dst v).run P w = .ok (.string (strOf l)) w := by
  rcases Raw.cases h with ⟨h0, h1, a, cap, rfl, _⟩ | ⟨h0, b, off, cap, rfl, _, _, _, _, hc⟩
  · have : l = [] := List.eq_nil_of_length_eq_zero h0
    subst this
    cases a with
    | none => exact run_convert_bytes_nil w src e hs he 0 cap dst hd
    | some ad =>
      rw [run_convert_bytes_string w src dst e _ 0 cap hs he hd]
      have := run_bytesToString (P := P) w ad 0 cap [] (by simp [loadCells, loadCellsFrom, Sem.run_pure])
      rw [this]; rfl
  · have := run_convert_bytes_arg (P := P) w src e hs he b off l.length cap (l.map fun b => (b.toNat : Int)) (by simp) (fun i hi => by
      rw [hc i (byteV l[i]) (by simp [bytesV, hi])]
      simp [byteV, List.getD, hi]) dst hd
    rw [this, strOf_nums]

section
variable {P : Program} {ops : Array Oper} {rest : List Oper} {o : Oper} {a : Act} {Q : Exit → Act → World → Prop}
/-- string(b) -/
theorem wpList_str {l : List UInt8} (src e dst : TypeId) (hs : P.underlying src = some (.slice e)) (he : P.underlying e = some (.int .u8)) (hd : P.underlying dst = some .string)
    (hgd : o.guard = none) (x : Operand) (ho : o.op = .convert src dst x) (hx : a.eval x = v) (h : Bytes F w v l) (hk : wpList P ops Q rest (a.put o.dst (.string (strOf l))) w) : wpList P ops Q (o :: rest) a w :=
  wpList_plain hgd fun K hK => by
    unfold Oper.wp execOp
    simp only [ho, Sem.run_bind, Sem.run_pure, Result.andThen_ok, hx, run_str h src e dst hs he hd]
    exact hK _ _ hk

theorem splice_take {α : Type} {cur xs ys : List α} {N i : Nat} (ht : cur.take N = xs) (h : i + ys.length ≤ N) (hN : N ≤ cur.length) : (splice cur i ys).take N = splice xs i ys := by
  subst ht
  unfold splice
  have e1 : (cur.take i).length = i := by rw [List.length_take]; omega
  have e2 : (cur.take N).take i = cur.take i := by rw [List.take_take, Nat.min_eq_left (by omega)]
  rw [List.take_append, e1, List.take_append, List.take_of_length_le (l := cur.take i) (by omega), List.take_of_length_le (l := ys) (by omega), e2, List.drop_take]
  congr 3
  omega
/-- what is to be known of a slice type: its element's type, size in cells and bytes, zero value -/
structure Elem (P : Program) (t e : TypeId) (k bytes : Nat) (z : Value) : Prop where
  ht : P.underlying t = some (.slice e)
  hi : (P.info? e).map (fun i => (i.zero, i.size, i.bytes)) = some (some z, k, bytes)
  hz : z.cells.size = k
  hb : bytes ≤ 10000
/-- append(s, x...) onto a row of the call's own -/
theorem wpList_append_raw {t e k bytes : Nat} {z : Value} (E : Elem P t e k bytes z) {t2 : TypeId} (ht2 : P.underlying t2 = some (.slice e)) {base : Nat} {G : List Nat} {sv xv : Value} {m : Nat} {news : List Value}
    (hown : w.ownsRow base e k sv n xs) (hx : Raw G k w xv m news) (hgd : o.guard = none) (s x : Operand) (ho : o.op = .call { callee := .builtin .append, args := #[s, x], argTypes := #[t, t2] }) (hs : a.eval s = sv) (hxv : a.eval x = xv)
    (h63 : n + m ≤ maxLen) (hbytes : (n + m) * bytes ≤ 140737488355328) (hbase : base ≤ w.heap.size)
    (h : ∀ v' w', w'.ownsRow base e k v' (n + m) (xs ++ news) → w.grownBy w' sv.ownBlock → wpList P ops Q rest (a.put o.dst v') w') : wpList P ops Q (o :: rest) a w := by
  obtain ⟨i0, hi, hz0, hz1, hz2⟩ := info_parts E.hi
  have hx' := hx
  obtain ⟨h1, h2, ad, cap, rfl, h3, h4, h5⟩ := hx
  exact Ml.wpList_append_own2 w hgd s x t t2 ho base e i0 z k bytes E.ht ht2 hi hz0 hz1 hz2 E.hz sv n xs hs hown ad m cap news hxv h1 (fun h0 => by
    obtain ⟨b, off, rfl, _, _, h7⟩ := h5 h0
    exact ⟨_, rfl, fun j u hj => by rw [Addr.add_lit]; exact h7 j u hj⟩) h2 h63 hbytes hbase h
theorem wpList_app {t e k bytes : Nat} {z : Value} (E : Elem P t e k bytes z) {t2 : TypeId} (ht2 : P.underlying t2 = some (.slice e)) {base : Nat} {G : List Nat} {sv xv : Value} {m : Nat} {news : List Value} {B : Nat} {w0 : World}
    (hown : w.ownsRow base e k sv n xs) (hx : Raw G k w xv m news) (hb : Below B w0 w) (hgd : o.guard = none) (s x : Operand) (ho : o.op = .call { callee := .builtin .append, args := #[s, x], argTypes := #[t, t2] }) (hs : a.eval s = sv) (hxv : a.eval x = xv)
    (hsm : n + m ≤ 10000000) (hB : B ≤ base) (hbase : base ≤ w.heap.size)
    (h : ∀ v' w', w'.ownsRow base e k v' (n + m) (xs ++ news) → Below B w0 w' → w.grownBy w' sv.ownBlock → w.heap.size ≤ w'.heap.size → wpList P ops Q rest (a.put o.dst v') w') : wpList P ops Q (o :: rest) a w :=
  wpList_append_raw E ht2 hown hx hgd s x ho hs hxv (by unfold maxLen; omega) (by have := Nat.mul_le_mul hsm E.hb; omega) hbase fun v' w' h1 h2 => h v' w' h1 (hb.grown h2 (by omega) (fun q hq => by have := (hown.lt q hq).1; omega)) h2 h2.size
/-- .. where other rows are known that the row appended to is not one of -/
theorem wpList_appF {t e k bytes : Nat} {z : Value} (E : Elem P t e k bytes z) {t2 : TypeId} (ht2 : P.underlying t2 = some (.slice e)) {base : Nat} {G : List Nat} {sv xv : Value} {m : Nat} {news : List Value} {B : Nat} {w0 : World}
    (hown : w.ownsRow base e k sv n xs) (hx : Raw G k w xv m news) (hb : Below B w0 w) (hgd : o.guard = none) (s x : Operand) (ho : o.op = .call { callee := .builtin .append, args := #[s, x], argTypes := #[t, t2] }) (hs : a.eval s = sv) (hxv : a.eval x = xv)
    (hsm : n + m ≤ 10000000) (hB : B ≤ base) (hbase : base ≤ w.heap.size)
    (h : ∀ v' w', w'.ownsRow base e k v' (n + m) (xs ++ news) → Below B w0 w' → Keep sv.ownBlock.toList w w' → (∀ f ∈ v'.ownBlock.toList, f ∈ sv.ownBlock.toList ∨ w.heap.size ≤ f) → wpList P ops Q rest (a.put o.dst v') w') : wpList P ops Q (o :: rest) a w := by
  obtain ⟨i0, hi, hz0, hz1, hz2⟩ := info_parts E.hi
  obtain ⟨h1, h2, ad, cap, rfl, h3, h4, h5⟩ := hx
  refine Ml.wpList_append_own3 w hgd s x t t2 ho base e i0 z k bytes E.ht ht2 hi hz0 hz1 hz2 E.hz sv n xs hs hown ad m cap news hxv h1 (fun h0 => by
    obtain ⟨b, off, rfl, _, _, h7⟩ := h5 h0
    exact ⟨_, rfl, fun j u hj => by rw [Addr.add_lit]; exact h7 j u hj⟩) h2 (by unfold maxLen; omega) (by have := Nat.mul_le_mul hsm E.hb; omega) hbase fun v' w' g1 g2 g3 => ?_
  refine h v' w' g1 (hb.grown g2 (by omega) (fun q hq => by have := (hown.lt q hq).1; omega)) (Keep.of_grown g2 (fun k hk => .inl (by simp [hk]))) fun f hf => ?_
  rcases g3 with g3 | g3
  · exact .inl (by rw [← g3]; exact hf)
  · rw [g3] at hf; simp at hf; exact .inr (by omega)
/-- a row of the call's own, or the first n elements of one, with no room behind them -/
def RowF (w : World) (base e k : Nat) (v : Value) (n : Nat) (xs : List Value) : Prop := w.ownsRow base e k v n xs ∨ (∃ r cur, v = .slice (some ⟨r, 0, none⟩) n n ∧ base ≤ r ∧ w.heap[r]? = some (.cells cur e (0, 0)) ∧ n ≤ maxLen ∧ xs.length = n * k ∧ cur.toList.take (n * k) = xs)
theorem RowF.len {base e : Nat} (h : RowF w base e k v n xs) : xs.length = n * k := by
  rcases h with h | ⟨r, cur, _, _, _, _, h, _⟩
  · exact h.1
  · exact h
theorem RowF.slice {base e : Nat} (h : RowF w base e k v n xs) : ∃ a c, v = .slice a n c := by
  rcases h with h | ⟨r, cur, h, _⟩
  · exact own_slice h
  · exact ⟨_, _, h⟩
theorem RowF.row {base e : Nat} (h : RowF w base e k v n xs) : ∀ r, v.ownBlock = some r → base ≤ r ∧ r < w.heap.size := by
  rcases h with h | ⟨r, cur, rfl, h1, h2, _⟩
  · exact h.lt
  · intro q hq; simp [Value.ownBlock] at hq; subst hq; exact ⟨h1, (Array.getElem?_eq_some_iff.1 h2).1⟩
theorem RowF.raw {base e : Nat} (h : RowF w base e k v n xs) (h1 : ∀ u ∈ xs, u.oneCell' = true) (hF : ∀ f ∈ F, v.ownBlock ≠ some f) : Raw F k w v n xs := by
  rcases h with h | ⟨r, cur, rfl, h2, h3, h4, h5, h6⟩
  · have hr := Raw.of_own (F := []) h h1 (fun f hf => by cases hf)
    obtain ⟨a1, a2, a, cap, rfl, a3, a4, a5⟩ := hr
    refine ⟨a1, a2, a, cap, rfl, a3, a4, fun h0 => ?_⟩
    obtain ⟨b, off, rfl, b1, _, b2⟩ := a5 h0
    exact ⟨b, off, rfl, b1, fun hm => hF b hm rfl, b2⟩
  · refine ⟨h5, h1, _, n, rfl, Nat.le_refl _, h4, fun h0 => ⟨r, 0, rfl, (Array.getElem?_eq_some_iff.1 h3).1, fun hm => hF r hm rfl, fun j u hj => ?_⟩⟩
    rw [Nat.zero_add, ← h6, List.getElem?_take] at *
    split at hj
    · simp [World.cell?, h3]; simpa using hj
    · cases hj
theorem RowF.keep {base e : Nat} {G : List Nat} {w' : World} (h : RowF w base e k v n xs) (hk : Keep G w w') (hG : ∀ r, v.ownBlock = some r → r ∉ G) : RowF w' base e k v n xs := by
  rcases h with h | ⟨r, cur, rfl, h2, h3, h4, h5, h6⟩
  · refine .inl ⟨h.1, ?_⟩
    rcases h.2 with h2 | ⟨g, cap, cur, rfl, hb, hg, r⟩
    · exact .inl h2
    · exact .inr ⟨g, cap, cur, rfl, hb, (hk.block g (Array.getElem?_eq_some_iff.1 hg).1 (hG g rfl)).trans hg, r⟩
  · exact .inr ⟨r, cur, rfl, h2, (hk.block r (Array.getElem?_eq_some_iff.1 h3).1 (hG r rfl)).trans h3, h4, h5, h6⟩
theorem RowF.type {base e : Nat} (h : RowF w base e k v n xs) {r : Nat} (hr : v.ownBlock = some r) : ∃ cur, w.heap[r]? = some (.cells cur e (0, 0)) := by
  rcases h with h | ⟨r', cur, rfl, h2, h3, _⟩
  · rcases h.2 with ⟨rfl, _⟩ | ⟨g, cap, cur, rfl, hb, hg, _⟩
    · simp [Value.ownBlock] at hr
    · simp [Value.ownBlock] at hr; subst hr; exact ⟨cur, hg⟩
  · simp [Value.ownBlock] at hr; subst hr; exact ⟨cur, h3⟩
/-- append onto such a row -/
theorem wpList_append_rowF {t e k bytes : Nat} {z : Value} (E : Elem P t e k bytes z) {t2 : TypeId} (ht2 : P.underlying t2 = some (.slice e)) {base : Nat} {G : List Nat} {sv xv : Value} {m : Nat} {news : List Value}
    (hown : RowF w base e k sv n xs) (hx : Raw G k w xv m news) (hgd : o.guard = none) (s x : Operand) (ho : o.op = .call { callee := .builtin .append, args := #[s, x], argTypes := #[t, t2] }) (hs : a.eval s = sv) (hxv : a.eval x = xv)
    (hm : 0 < m) (hsm : n + m ≤ 10000000) (hbase : base ≤ w.heap.size)
    (h : ∀ v' w', w'.ownsRow base e k v' (n + m) (xs ++ news) → Keep sv.ownBlock.toList w w' → (∀ f, v'.ownBlock = some f → sv.ownBlock = some f ∨ w.heap.size ≤ f) → wpList P ops Q rest (a.put o.dst v') w') : wpList P ops Q (o :: rest) a w := by
  obtain ⟨i0, hi, hz0, hz1, hz2⟩ := info_parts E.hi
  obtain ⟨h1, h2, ad, cap, rfl, h3, h4, h5⟩ := hx
  have hnews : 0 < m → ∃ a', ad = some a' ∧ ∀ j u, news[j]? = some u → w.cell? (a'.add j) = some u := fun h0 => by
    obtain ⟨b, off, rfl, _, _, h7⟩ := h5 h0
    exact ⟨_, rfl, fun j u hj => by rw [Addr.add_lit]; exact h7 j u hj⟩
  have h63 : n + m ≤ maxLen := by unfold maxLen; omega
  have hby : (n + m) * bytes ≤ 140737488355328 := by have := Nat.mul_le_mul hsm E.hb; omega
  rcases hown with hown | ⟨r, cur, rfl, g2, g3, g4, g5, g6⟩
  · refine Ml.wpList_append_own3 w hgd s x t t2 ho base e i0 z k bytes E.ht ht2 hi hz0 hz1 hz2 E.hz sv n xs hs hown ad m cap news hxv h1 hnews h2 h63 hby hbase fun v' w' g1 g2 g3 => ?_
    refine h v' w' g1 (Keep.of_grown g2 (fun k hk => .inl (by simp [hk]))) fun f hf => ?_
    rcases g3 with g3 | g3
    · exact .inl (by rw [← g3]; exact hf)
    · rw [g3] at hf; simp at hf; exact .inr (by omega)
  · refine wpList_plain hgd fun K hK => ?_
    obtain ⟨v', w', hr, q1, q2, q3⟩ := Ml.run_append_grow (P := P) w t t2 o.type e i0 z k bytes E.ht ht2 hi hz0 hz1 hz2 E.hz ⟨r, 0, none⟩ n n xs g5 (fun j u hj => by
      rw [Addr.add_lit, Nat.zero_add]
      rw [← g6, List.getElem?_take] at hj
      split at hj
      · simp [World.cell?, g3]; simpa using hj
      · cases hj) ad m cap news h1 hnews (by omega) h63 hby base hbase
    unfold Oper.wp execOp
    simp only [ho, resolve, invoke, builtin, Sem.run_bind, Sem.run_pure, Result.andThen_ok, List.map_toArray, List.map_cons, List.map_nil, hs, hxv, hr]
    exact hK _ _ (h _ _ q1 (Keep.of_grown q2 (fun k hk => by cases hk)) fun f hf => by rw [q3] at hf; simp at hf; exact .inr (by omega))
/-- copy into a known row, at element i -/
theorem wpList_copy_raw {t e k bytes : Nat} {z : Value} (E : Elem P t e k bytes z) {t2 : TypeId} {base : Nat} {G : List Nat} {g cap : Nat} {xv : Value} {m i d : Nat} {news : List Value}
    (hown : w.ownsRow base e k (.slice (some ⟨g, 0, none⟩) n cap) n xs) (hx : Raw G k w xv m news) (hgd : o.guard = none) (s x : Operand) (ho : o.op = .call { callee := .builtin .copy, args := #[s, x], argTypes := #[t, t2] })
    {off dLen dCap : Nat} (hs : a.eval s = .slice (some ⟨g, off, none⟩) dLen dCap) (hxv : a.eval x = xv) (hoff : off = i * k) (hi : i + dLen ≤ n) (hd : Nat.min m dLen = d)
    (h : ∀ w', w'.ownsRow base e k (.slice (some ⟨g, 0, none⟩) n cap) n (splice xs (i * k) (news.take (d * k))) → w.grownBy w' (some g) → w'.heap.size = w.heap.size → wpList P ops Q rest (a.put o.dst (goInt d)) w') : wpList P ops Q (o :: rest) a w := by
  obtain ⟨i0, hi0, hz0, hz1, hz2⟩ := info_parts E.hi
  obtain ⟨h1, h2, ad, c, rfl, h3, h4, h5⟩ := hx
  obtain ⟨hx1, hx2⟩ := hown
  rcases hx2 with ⟨hx2, _⟩ | ⟨g', cap', cur, hv, hb, hg, hn, hcm, hcs, ht⟩
  · cases hx2
  cases hv
  subst hoff
  have hdm : d ≤ m := by rw [← hd]; exact Nat.min_le_left _ _
  have hdl : d ≤ dLen := by rw [← hd]; exact Nat.min_le_right _ _
  have hnl : (news.take (d * k)).length = d * k := by rw [List.length_take, h1]; exact Nat.min_eq_left (Nat.mul_le_mul_right _ hdm)
  have hsz : (P.info? e).map (·.size) = some k := by rw [hi0]; simp [hz1]
  have hik : i * k + d * k ≤ n * k := by rw [← Nat.add_mul]; exact Nat.mul_le_mul_right _ (by omega)
  have hnk : n * k ≤ cap * k := Nat.mul_le_mul_right _ hn
  have hcl : cur.toList.length = cap * k := by simpa using hcs
  have key : ∀ w' : World, w'.heap[g]? = some (.cells (splice cur.toList (i * k) (news.take (d * k))).toArray e (0, 0)) → w'.ownsRow base e k (.slice (some ⟨g, 0, none⟩) n cap) n (splice xs (i * k) (news.take (d * k))) := fun w' hw => by
    refine ⟨by rw [length_splice _ _ _ (by rw [hnl, hx1]; exact hik), hx1], .inr ⟨g, cap, _, rfl, hb, hw, hn, hcm, by simp [length_splice, hnl, hcl, Nat.le_trans hik hnk], ?_⟩⟩
    rw [List.toList_toArray]
    exact splice_take ht (by rw [hnl]; exact hik) (by omega)
  by_cases hd0 : 0 < d
  · obtain ⟨b, off, rfl, _, _, h7⟩ := h5 (by omega)
    exact In.wpList_copyk hgd s x t t2 ho e k E.ht hsz g (i * k) dLen dCap ⟨b, off, none⟩ m c hs hxv cur.toList e (by simpa using hg) (news.take (d * k)) d hd hnl (fun j u hj => by
      rw [Addr.add_lit]
      rw [List.getElem?_take] at hj
      split at hj
      · exact h7 j u hj
      · cases hj) (by rw [hnl, hcl]; omega) (fun u hu => h2 u (List.mem_of_mem_take hu)) (fun w' a1 a2 a3 => h w' (key w' a1) a2 a3)
  · obtain rfl : d = 0 := by omega
    refine wpList_plain hgd fun K hK => ?_
    have hr : (Builtin.copy_ #[t, t2] o.type #[.slice (some ⟨g, i * k, none⟩) dLen dCap, .slice ad m c]).run P w = .ok (goInt 0) w := by
      have hmn : min m dLen = 0 := hd
      cases ad <;> simp [Builtin.copy_, run_underlying E.ht, sizeOf, typeInfo, hi0, Builtin.lenOf, hmn, Builtin.firstCells, loadCells, loadCellsFrom, storeCells]
    unfold Oper.wp execOp
    simp only [ho, resolve, invoke, builtin, Sem.run_bind, Sem.run_pure, Result.andThen_ok, List.map_toArray, List.map_cons, List.map_nil, hs, hxv, hr]
    refine hK _ _ (h w ?_ ⟨rfl, rfl, rfl, Nat.le_refl _, fun _ _ _ => rfl⟩ rfl)
    have := key w (by rw [hg]; simp [splice])
    exact this
/-- make([]T, n) -/
theorem wpList_make {t e k bytes : Nat} {z : Value} (E : Elem P t e k bytes z) (base : Nat) (c : Nat) (hgd : o.guard = none) (x y : Operand) (ho : o.op = .makeSlice t x y) {kx ky : IntKind} {cx cy : Int} (hx : a.eval x = .int kx cx) (hy : a.eval y = .int ky cy) (hcx : cx = c) (hcy : cy = c)
    (hbytes : c * bytes ≤ 140737488355328) (h63 : c ≤ maxLen) (hbase : base ≤ w.heap.size)
    (h : ∀ w', w'.ownsRow base e k (.slice (some ⟨w.heap.size, 0, none⟩) c c) c (madeCells z.cells (c * k)).toList → w.grownBy w' none → w.heap.size < w'.heap.size → wpList P ops Q rest (a.put o.dst (.slice (some ⟨w.heap.size, 0, none⟩) c c)) w') : wpList P ops Q (o :: rest) a w :=
  wpList_plain hgd fun K hK => by
    obtain ⟨i0, hi0, hz0, hz1, hz2⟩ := info_parts E.hi
    subst hcx; subst hcy
    have h63' : (c : Int) ≤ 9223372036854775807 := by simp only [maxLen] at h63; omega
    have hb' : (i0.bytes : Int) * (c : Int) ≤ 281474976710656 := by
      have h : ((i0.bytes * c : Nat) : Int) ≤ 281474976710656 := by rw [hz2, Nat.mul_comm]; omega
      rwa [Int.natCast_mul] at h
    have hr := run_make (P := P) w t e i0 z E.ht hi0 hz0 kx ky c c (by omega) (Int.le_refl _) hb' h63'
    simp only [Int.toNat_natCast, hz1] at hr
    unfold Oper.wp execOp
    simp only [ho, Sem.run_bind, Sem.run_pure, Result.andThen_ok, hx, hy, hr]
    refine hK _ _ (h _ ⟨by simp [size_madeCells], .inr ⟨w.heap.size, c, _, rfl, hbase, heap_alloc_new w _, Nat.le_refl _, h63, size_madeCells _ _, ?_⟩⟩ (World.grownBy_alloc w _ none) (by simp))
    rw [List.take_of_length_le]; simp [size_madeCells]
end
theorem wp_gen {P : Program} {c : Code} {Q : Exit → Act → World → Prop} {a : Act} {w : World} (I : World → Prop) (h : I w) (k : ∀ w', I w' → c.wp P Q a w') : c.wp P Q a w := k w h
theorem wpList_gen {P : Program} {ops : Array Oper} {Q : Exit → Act → World → Prop} {l : List Oper} {a : Act} {w : World} (I : World → Prop) (h : I w) (k : ∀ w', I w' → wpList P ops Q l a w') : wpList P ops Q l a w := k w h
theorem box_at {w : World} {g : Nat} {ys : Array Value} {t : TypeId} {fz : Nat × Nat} (h : w.heap[g]? = some (.cells ys t fz)) {j : Nat} {u : Value} (hj : ys[j]? = some u) : w.cell? ⟨g, j, none⟩ = some u := by simp [World.cell?, h, hj]
theorem box_free {w : World} {g : Nat} {ys : Array Value} {t : TypeId} (h : w.heap[g]? = some (.cells ys t (0, 0))) (j : Nat) : w.frozen? ⟨g, j, none⟩ = false := by simp [World.frozen?, h]
/-- the block that a slice's cells lie in, if it has any -/
theorem Raw.blocks {F : List Nat} {k : Nat} {w : World} {v : Value} {n : Nat} {xs : List Value} (h : Raw F k w v n xs) (hk : 0 < k) : ∃ bl : List Nat, (∀ bl', (∀ b ∈ bl, b ∈ bl') → Txt.InS bl' v) ∧ ∀ b ∈ bl, b ∉ F ∧ ∃ c e f, w.heap[b]? = some (.cells c e f) := by
  have hl := h.len
  rcases h.cases with ⟨h0, h1, a, c, rfl, _⟩ | ⟨h0, b, off, c, rfl, _, _, hb, hF, hc⟩
  · refine ⟨[], fun bl' _ => ?_, fun b hb => by cases hb⟩
    cases a
    · trivial
    · exact .inl rfl
  · have hx : 0 < xs.length := by rw [hl]; exact Nat.mul_pos h0 hk
    exact ⟨[b], fun bl' hs => .inr (hs b (by simp)), fun b' hb' => by
      rw [List.mem_singleton.1 hb']
      exact ⟨hF, Txt.cells_of (hc 0 (xs[0]'hx) (by simp))⟩⟩
theorem same_keep {bs F : List Nat} {w0 w1 w2 : World} (h : Txt.SameB bs w0 w1) (hk : Keep F w1 w2) (hF : ∀ b ∈ bs, b ∉ F) : Txt.SameB bs w0 w2 := fun b hb => by
  obtain ⟨⟨c, e, f, h1⟩, h2⟩ := h b hb
  have e1 : w2.heap[b]? = w1.heap[b]? := hk.block b (Array.getElem?_eq_some_iff.1 h1).1 (hF b hb)
  exact ⟨⟨c, e, f, e1.trans h1⟩, e1.trans h2⟩
theorem same_below' {bs : List Nat} {w0 w1 w2 : World} (h : Txt.SameB bs w0 w1) (hb : Below w1.heap.size w1 w2) : Txt.SameB bs w0 w2 := same_keep h (Keep.of_below' (F := []) hb) (fun b _ hm => by cases hm)
/-- what lies outside of F and G -/
theorem Raw.both {F G : List Nat} {k n : Nat} {w : World} {v : Value} {xs : List Value} (h : Raw F k w v n xs) (h' : Raw G k w v n xs) : Raw (F ++ G) k w v n xs := by
  obtain ⟨h1, h2, a, cap, rfl, h3, h4, h5⟩ := h
  obtain ⟨_, _, a', cap', e, _, _, h5'⟩ := h'
  cases e
  refine ⟨h1, h2, a, cap, rfl, h3, h4, fun h0 => ?_⟩
  obtain ⟨b, off, rfl, q1, q2, q3⟩ := h5 h0
  obtain ⟨b', off', e, _, q2', _⟩ := h5' h0
  cases e
  exact ⟨b, off, rfl, q1, by simp [q2, q2'], q3⟩
theorem own_keep {w w' : World} {base e k n : Nat} {v : Value} {xs : List Value} {G : List Nat} (h : w.ownsRow base e k v n xs) (hk : Keep G w w') (hG : ∀ r, v.ownBlock = some r → r ∉ G) : w'.ownsRow base e k v n xs := by
  refine ⟨h.1, ?_⟩
  rcases h.2 with h2 | ⟨g', cap, cur', hv', hb', hg', rest⟩
  · exact .inl h2
  · exact .inr ⟨g', cap, cur', hv', hb', (hk.block g' (Array.getElem?_eq_some_iff.1 hg').1 (hG g' (by rw [hv']; rfl))).trans hg', rest⟩
end Go.Rw
