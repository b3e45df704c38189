/- UnitTransaction: the arguments read -/
import Derived.Test.YtplhmoapcicncaaGreatQf
namespace Go.Rd
open Go Go.ChangeShapes Go.WideShapes Go.ChangeAt Go.RowKit Go.Bs Go.Deep Go.Joins Go.Rw Go.Cl
variable {H : Type} {enc : TypeId × Value → H} {P : Program} {W : World}
theorem weights_all {e : TypeId} : ∀ {l : List (DataW H)} {x : DataW H} {n : Nat}, x ∈ l → n ∈ x.weights P e → n ∈ DataW.weightsAll P e l
  | d :: r, x, n, h, hn => by
    simp only [DataW.weightsAll]
    rcases List.mem_cons.1 h with rfl | h
    · exact List.mem_append_left _ hn
    · exact List.mem_append_right _ (weights_all h hn)
/-- slices of elements whose weights are bounded -/
theorem read_slice3w {B : Nat} {α : Type} {t e k : Nat} {rd : α → List Value} (hk : P.cellsOf e = k) (hk0 : 0 < k) (ht : P.underlying t = some (.slice e))
    (helem : ∀ (fuel : Nat) (cs : List Value) (x : DataW H × List MemPlace), DataW.trod enc P W 0 (fun _ => true) true fuel e cs = some x → (∀ n ∈ x.1.weights P e, n ≤ B) → ∃ y : α, cs = rd y)
    {a0 : Option Addr} {len cap : Nat} {d : DataW H} {p : List MemPlace} (h : DataW.Trod enc P W 0 (fun _ => true) true t (.slice a0 len cap) d p) (hw : ∀ n ∈ d.weights P t, n ≤ B) :
    len ≤ cap ∧ cap ≤ maxLen ∧ ∃ l : List α, l.length = len ∧ (0 < len → ∃ b off, a0 = some ⟨b, off, none⟩ ∧ b < W.heap.size ∧ ∀ i (y : α), l[i]? = some y → ∀ j, j < k → W.cell? ⟨b, off + i * k + j, none⟩ = (rd y)[j]?) := by
  obtain ⟨fuel, hf⟩ := h
  rcases open_slice ht hf with ⟨hcs, _⟩ | ⟨a, len', cap', m, n, D, Pl, hcs, _, hl, hm, hmm, hd, hel⟩
  · simp [Value.cells] at hcs
    obtain ⟨rfl, rfl, rfl⟩ := hcs
    exact ⟨Nat.le_refl _, Nat.zero_le _, [], rfl, fun h => by omega⟩
  · simp [Value.cells] at hcs
    obtain ⟨rfl, rfl, rfl⟩ := hcs
    simp only [if_true] at hmm
    subst hmm
    have hsub : ∀ i, i < len → ∀ n ∈ (D i).weights P e, n ∈ d.weights P t := by
      intro i hi n hn
      cases hd
      simp only [DataW.weights, ht]
      exact List.mem_cons_of_mem _ (List.mem_append_left _ (weights_all (List.mem_map_of_mem (List.mem_range.2 hi)) hn))
    have hex : ∀ i, ∃ y : Option α, i < len → ∃ z, y = some z ∧ W.cells? 0 (a.add (i * k)) k = some (rd z) := by
      intro i
      by_cases hi : i < len
      · obtain ⟨cs', h1, h2⟩ := hel i (by omega)
        obtain ⟨y, rfl⟩ := helem _ _ _ h2 (fun n hn => hw n (hsub i hi n hn))
        rw [hk] at h1
        exact ⟨some y, fun _ => ⟨y, rfl, h1⟩⟩
      · exact ⟨none, fun h => absurd h hi⟩
    have hex2 : ∀ n, n ≤ len → ∃ l : List α, l.length = n ∧ ∀ i y, l[i]? = some y → W.cells? 0 (a.add (i * k)) k = some (rd y) := by
      intro n
      induction n with
      | zero => intro _; exact ⟨[], rfl, fun i y h => by simp at h⟩
      | succ n ih =>
        intro hn
        obtain ⟨l, hl1, hl2⟩ := ih (by omega)
        obtain ⟨y, hy⟩ := hex n
        obtain ⟨z, rfl, hz⟩ := hy (by omega)
        refine ⟨l ++ [z], by simp [hl1], fun i y h => ?_⟩
        by_cases hi : i < l.length
        · rw [List.getElem?_append_left hi] at h; exact hl2 i y h
        · rw [List.getElem?_append_right (by omega)] at h
          have : i = n := by
            rcases Nat.lt_or_ge (i - l.length) 1 with h' | h'
            · omega
            · simp [List.getElem?_eq_none (show [z].length ≤ i - l.length by simpa using h')] at h
          subst this
          simp [hl1] at h
          rw [← h]; exact hz
    obtain ⟨l, hl1, hl2⟩ := hex2 len (Nat.le_refl _)
    refine ⟨hl, hm, l, hl1, fun h0 => ?_⟩
    obtain ⟨y0, hy0⟩ : ∃ y, l[0]? = some y := ⟨l[0], by simp [hl1, h0]⟩
    have hc0 := (cells_at (hl2 0 y0 hy0)).2 0 hk0
    obtain ⟨b, off, spot⟩ := a
    have hr0 : ∃ v, (rd y0)[0]? = some v := by
      have := (cells_at (hl2 0 y0 hy0)).1
      exact ⟨(rd y0)[0]'(by omega), by simp⟩
    obtain ⟨v0, hv0⟩ := hr0
    rw [hv0] at hc0
    have hspot : spot = none := by simpa [Addr.add] using World.cell?_spot hc0
    subst hspot
    have hb : b < W.heap.size := by simpa [Addr.add] using World.block_lt_of_cell? W _ hc0
    refine ⟨b, off, rfl, hb, fun i y hi j hj => ?_⟩
    have := (cells_at (hl2 i y hi)).2 j hj
    have e : (({ block := b, off := off, spot := none } : Addr).add (i * k)).add j = ⟨b, off + i * k + j, none⟩ := by
      unfold Addr.add
      split <;> split <;> simp_all
    rw [e] at this
    exact this
theorem read_csw {B : Nat} {α : Type} {t e k : Nat} {rd : α → List Value} {Rl : α → Prop} (hk : P.cellsOf e = k) (hk0 : 0 < k) (hrk : ∀ x, (rd x).length = k) (ht : P.underlying t = some (.slice e)) (hone : ∀ y, Rl y → ∀ u ∈ rd y, u.oneCell' = true)
    (helem : ∀ (fuel : Nat) (cs : List Value) (x : DataW H × List MemPlace), DataW.trod enc P W 0 (fun _ => true) true fuel e cs = some x → (∀ n ∈ x.1.weights P e, n ≤ B) → ∃ y : α, cs = rd y ∧ Rl y)
    {fuel : Nat} {cs : List Value} {x : DataW H × List MemPlace} (h : DataW.trod enc P W 0 (fun _ => true) true fuel t cs = some x) (hw : ∀ n ∈ x.1.weights P t, n ≤ B) :
    ∃ (v : Value) (l : List α), cs = [v] ∧ Raw [] k W v l.length (l.flatMap rd) ∧ ∀ y ∈ l, Rl y := by
  have hcs : ∃ a len cap, cs = [.slice a len cap] := by
    rcases open_slice ht h with ⟨hcs, _⟩ | ⟨a, len', cap', m, n, D, Pl, hcs, _⟩
    · exact ⟨_, _, _, hcs⟩
    · exact ⟨_, _, _, hcs⟩
  obtain ⟨a0, len, cap, rfl⟩ := hcs
  have hT : DataW.Trod enc P W 0 (fun _ => true) true t (.slice a0 len cap) x.1 x.2 := ⟨fuel, by simpa [Value.cells] using h⟩
  obtain ⟨h1, h2, l, hl, hh⟩ := read_slice3w (α := {y : α // Rl y}) (rd := fun y => rd y.1) hk hk0 ht (B := B) (fun fuel cs x hx hx2 => by
    obtain ⟨y, hy, hr⟩ := helem fuel cs x hx hx2
    exact ⟨⟨y, hr⟩, hy⟩) hT hw
  refine ⟨_, l.map (·.1), rfl, ?_, fun y hy => ?_⟩
  · refine ⟨by rw [flat_length rd hrk], fun u hu => ?_, a0, cap, by rw [List.length_map, hl], by rw [List.length_map, hl]; exact h1, h2, fun h0 => ?_⟩
    · obtain ⟨y, hy, hu⟩ := List.mem_flatMap.1 hu
      obtain ⟨z, _, rfl⟩ := List.mem_map.1 hy
      exact hone _ z.2 u hu
    · obtain ⟨b, off, rfl, hb, hc⟩ := hh (by rw [List.length_map, hl] at h0; exact h0)
      refine ⟨b, off, rfl, hb, fun hm => (by cases hm), fun j u hj => ?_⟩
      obtain ⟨y, hy, hu, hd, hm, he⟩ := flat_cell rd hrk hk0 hj
      rw [List.getElem?_map] at hy
      cases hz : l[j / k]? with
      | none => rw [hz] at hy; cases hy
      | some z =>
        rw [hz] at hy
        simp only [Option.map_some, Option.some.injEq] at hy
        have := hc (j / k) z hz (j % k) hm
        rw [hy, hu] at this
        rw [show off + j = off + j / k * k + j % k by omega]
        exact this
  · obtain ⟨z, _, rfl⟩ := List.mem_map.1 hy
    exact z.2
/-- .. an argument -/
theorem read_valw {B : Nat} {α : Type} {t e k : Nat} {rd : α → List Value} {Rl : α → Prop} (hk : P.cellsOf e = k) (hk0 : 0 < k) (hrk : ∀ x, (rd x).length = k) (ht : P.underlying t = some (.slice e)) (hone : ∀ y, Rl y → ∀ u ∈ rd y, u.oneCell' = true)
    (helem : ∀ (fuel : Nat) (cs : List Value) (x : DataW H × List MemPlace), DataW.trod enc P W 0 (fun _ => true) true fuel e cs = some x → (∀ n ∈ x.1.weights P e, n ≤ B) → ∃ y : α, cs = rd y ∧ Rl y)
    {base : Nat} {v : Value} {d : DataW H} {p : List MemPlace} (hv : Value.okWide P W .any base t v) (h : DataW.Trod enc P W 0 (fun _ => true) true t v d p) (hw : ∀ n ∈ d.weights P t, n ≤ B) :
    ∃ l : List α, Raw [] k W v l.length (l.flatMap rd) ∧ ∀ y ∈ l, Rl y := by
  obtain ⟨a, len, cap, rfl⟩ := okWide_slice ht hv
  obtain ⟨fuel, hf⟩ := h
  obtain ⟨v, l, hcs, h1, h2⟩ := read_csw hk hk0 hrk ht hone helem hf hw
  simp [Value.cells] at hcs
  subst hcs
  exact ⟨l, h1, h2⟩
end Go.Rd
namespace Go.Im
open Go Go.RowKit Go.Bs Go.Cl Go.Rw Go.Fa
/-- a result: an image and its effects, and the values that hold them -/
structure Rs where
  v : Value
  l : List UInt8
  e : Value
  k : List UInt8
def encR (r : Rs) : List Value := [r.v, r.e]
theorem encR_len (r : Rs) : (encR r).length = 2 := rfl
def Rs.ok (w : World) (r : Rs) : Prop := Bytes [] w r.v r.l ∧ Bytes [] w r.e r.k ∧ r.l.length ≤ reachBytes ∧ r.k.length ≤ reachBytes
/-- a failure -/
structure Fl where
  p : FP
  t : Oc
  v : Value
  e : Value
  md : Int
def encF (x : Fl) : List Value := [.int .i64 x.p.c, .int .i64 x.p.n, .int .i64 x.p.e, .int .i64 x.p.k, .int .i64 x.p.s, .int .i64 x.p.pl, .int .i64 x.p.m, .int .i64 x.t.en, .int .i64 x.t.st, .int .i64 x.t.er, x.v, x.e, .int .u8 x.md]
theorem encF_len (x : Fl) : (encF x).length = 13 := rfl
def Fl.ok (w : World) (x : Fl) : Prop := Bytes [] w x.v x.t.im ∧ Bytes [] w x.e x.t.ef ∧ 0 ≤ x.md ∧ x.md ≤ 255 ∧ x.t.im.length ≤ reachBytes ∧ x.t.ef.length ≤ reachBytes
def SlR (w : World) (v : Value) (l : List Rs) : Prop := Raw [] 2 w v l.length (l.flatMap encR)
def SlF (w : World) (v : Value) (l : List Fl) : Prop := Raw [] 13 w v l.length (l.flatMap encF)
theorem rs_one {w : World} {r : Rs} (h : r.ok w) : ∀ u ∈ encR r, u.oneCell' = true := by
  intro u hu
  obtain ⟨_, _, h1⟩ := Raw.slice h.1
  obtain ⟨_, _, h2⟩ := Raw.slice h.2.1
  simp [encR] at hu
  rcases hu with rfl | rfl
  · rw [h1]; rfl
  · rw [h2]; rfl
theorem fl_one {w : World} {r : Fl} (h : r.ok w) : ∀ u ∈ encF r, u.oneCell' = true := by
  intro u hu
  obtain ⟨_, _, h1⟩ := Raw.slice h.1
  obtain ⟨_, _, h2⟩ := Raw.slice h.2.1
  simp [encF] at hu
  rcases hu with rfl | rfl | rfl | rfl | rfl | rfl | rfl | rfl | rfl | rfl | rfl | rfl | rfl
  all_goals first | rfl | (rw [h1]; rfl) | (rw [h2]; rfl)
theorem SlR.elem {w : World} {a : Option Addr} {n c : Nat} {l : List Rs} (h : SlR w (.slice a n c) l) {k : Nat} {x : Rs} (hk : l[k]? = some x) :
    ∃ b off, a = some ⟨b, off, none⟩ ∧ b < w.heap.size ∧ ∀ j u, (encR x)[j]? = some u → w.cell? ⟨b, off + (k * 2 + j), none⟩ = some u := by
  have hlt : k < l.length := (List.getElem?_eq_some_iff.1 hk).1
  rcases Raw.cases h with ⟨h0, _⟩ | ⟨_, b, off, cap, hv, _, _, hb, _, hc⟩
  · omega
  · cases hv
    refine ⟨b, off, rfl, hb, fun j u hu => hc _ _ ?_⟩
    rw [← hu]
    have hj : j < 2 := by
      have := (List.getElem?_eq_some_iff.1 hu).1
      rwa [encR_len] at this
    exact flat_get encR encR_len l k j _ hk hj
theorem SlF.elem {w : World} {a : Option Addr} {n c : Nat} {l : List Fl} (h : SlF w (.slice a n c) l) {k : Nat} {x : Fl} (hk : l[k]? = some x) :
    ∃ b off, a = some ⟨b, off, none⟩ ∧ b < w.heap.size ∧ ∀ j u, (encF x)[j]? = some u → w.cell? ⟨b, off + (k * 13 + j), none⟩ = some u := by
  have hlt : k < l.length := (List.getElem?_eq_some_iff.1 hk).1
  rcases Raw.cases h with ⟨h0, _⟩ | ⟨_, b, off, cap, hv, _, _, hb, _, hc⟩
  · omega
  · cases hv
    refine ⟨b, off, rfl, hb, fun j u hu => hc _ _ ?_⟩
    rw [← hu]
    have hj : j < 13 := by
      have := (List.getElem?_eq_some_iff.1 hu).1
      rwa [encF_len] at this
    exact flat_get encF encF_len l k j _ hk hj
end Go.Im
namespace Go.Proofs.YtplhmoapcicncaaGreat
open Go.ChangeShapes Go.WideShapes Go.ChangeAt Go.RowKit Go.Bs Go.Cl Go.Rw Go.Rd Go.Deep Go.Joins Go.Fa Go.Im
theorem Tryz.own : ownKnob Tryz.prog.godebug = none := by kernel_rfl
theorem Tryz.laidOut : laidOutB Tryz.prog = true := by kernel_rfl
theorem Tryz.cells3' : Tryz.prog.cellsOf 3 = 1 := by kernel_rfl
theorem Tryz.cells5' : Tryz.prog.cellsOf 5 = 1 := by kernel_rfl
theorem Tryz.cells22' : Tryz.prog.cellsOf 22 = 1 := by kernel_rfl
theorem Tryz.cells28' : Tryz.prog.cellsOf 28 = 1 := by kernel_rfl
theorem Tryz.cells26' : Tryz.prog.cellsOf 26 = 2 := by kernel_rfl
theorem Tryz.cells36' : Tryz.prog.cellsOf 36 = 13 := by kernel_rfl
set_option maxRecDepth 100000 in
theorem read_by {H : Type} {enc : TypeId × Value → H} {W : World} {base : Nat} {v : Value} {d : DataW H} {p : List MemPlace} (hv : Value.okWide Tryz.prog W .any base 22 v)
    (h : DataW.Trod enc Tryz.prog W 0 (fun _ => true) true 22 v d p) : ∃ l : List UInt8, Bytes [] W v l := read_bytes Tryz.cells5' Tryz.underlying22 Tryz.underlying5 hv h
theorem Tryz.bytes5 : Tryz.prog.bytesOf 5 = 1 := by kernel_rfl
theorem slice_reach {H : Type} {enc : TypeId × Value → H} {W : World} {fuel : Nat} {cs : List Value} {v : Value} {l : List UInt8} {y : DataW H × List MemPlace} (hv : cs = [v]) (hb : Bytes [] W v l) (h : DataW.trod enc Tryz.prog W 0 (fun _ => true) true fuel 22 cs = some y) (hw : ∀ n ∈ y.1.weights Tryz.prog 22, n ≤ reachBytes) : l.length ≤ reachBytes := by
  obtain ⟨a, c, rfl⟩ := Raw.slice hb
  subst hv
  rcases open_slice Tryz.underlying22 h with ⟨hcs, _⟩ | ⟨a', len', cap', m, n, D, Pl, hcs, _, _, _, _, rfl, _⟩
  · simp at hcs
    rw [hcs.2.1]; exact Nat.zero_le _
  · simp at hcs
    obtain ⟨_, h1, _⟩ := hcs
    have := hw _ (by simp only [DataW.weights, Tryz.underlying22]; exact .head _)
    rw [Tryz.bytes5] at this
    simp at this
    omega
set_option maxRecDepth 100000 in
theorem res_of {H : Type} {enc : TypeId × Value → H} {W : World} (fuel : Nat) (cs : List Value) (x : DataW H × List MemPlace) (hf : DataW.trod enc Tryz.prog W 0 (fun _ => true) true fuel 26 cs = some x) (hw : ∀ n ∈ x.1.weights Tryz.prog 26, n ≤ reachBytes) : ∃ y : Rs, cs = encR y ∧ y.ok W := by
  obtain ⟨d, p⟩ := x
  have hl : cs.length = 2 := by
    obtain ⟨_, _, _, _, hl, _⟩ := DataW.trod_array Tryz.underlying26 hf
    rw [hl, Tryz.cells26']
  match cs, hl with
  | [c0, c1], _ =>
    have g0 := Rl.trod_leaf (e := 22) (o := 0) [0] (by kernel_rfl) (by kernel_rfl) (by rw [Tryz.cells26']; exact Nat.le_of_ble_eq_true rfl) hf
    rw [Tryz.cells22'] at g0
    obtain ⟨_, _, g0, u0⟩ := g0
    obtain ⟨v0, l0, e0, b0⟩ := read_bytes_cs Tryz.cells5' Tryz.underlying22 Tryz.underlying5 g0
    have z0 := slice_reach e0 b0 g0 (fun n hn => hw n (u0 n hn))
    simp at e0
    have g1 := Rl.trod_leaf (e := 22) (o := 1) [1] (by kernel_rfl) (by kernel_rfl) (by rw [Tryz.cells26']; exact Nat.le_of_ble_eq_true rfl) hf
    rw [Tryz.cells22'] at g1
    obtain ⟨_, _, g1, u1⟩ := g1
    obtain ⟨v1, l1, e1, b1⟩ := read_bytes_cs Tryz.cells5' Tryz.underlying22 Tryz.underlying5 g1
    have z1 := slice_reach e1 b1 g1 (fun n hn => hw n (u1 n hn))
    simp at e1
    exact ⟨⟨v0, l0, v1, l1⟩, by simp [encR, e0, e1], b0, b1, z0, z1⟩
set_option maxRecDepth 100000 in
set_option maxHeartbeats 2000000 in
theorem fail_of {H : Type} {enc : TypeId × Value → H} {W : World} (fuel : Nat) (cs : List Value) (x : DataW H × List MemPlace) (hf : DataW.trod enc Tryz.prog W 0 (fun _ => true) true fuel 36 cs = some x) (hw : ∀ n ∈ x.1.weights Tryz.prog 36, n ≤ reachBytes) : ∃ y : Fl, cs = encF y ∧ y.ok W := by
  obtain ⟨d, p⟩ := x
  obtain ⟨_, _, _, _, hl, _⟩ := DataW.trod_struct Tryz.underlying36 hf
  rw [Tryz.cells36'] at hl
  match cs, hl with
  | [c0, c1, c2, c3, c4, c5, c6, c7, c8, c9, c10, c11, c12], _ =>
    have g0 := Rl.trod_leaf (e := 3) (o := 0) [0, 0] (by kernel_rfl) (by kernel_rfl) (by rw [Tryz.cells36']; exact Nat.le_of_ble_eq_true rfl) hf
    rw [Tryz.cells3'] at g0
    obtain ⟨_, _, g0, _⟩ := g0
    obtain ⟨k0, e0, _⟩ := DataW.trod_int Tryz.underlying3 g0
    simp at e0
    have g1 := Rl.trod_leaf (e := 3) (o := 1) [0, 1] (by kernel_rfl) (by kernel_rfl) (by rw [Tryz.cells36']; exact Nat.le_of_ble_eq_true rfl) hf
    rw [Tryz.cells3'] at g1
    obtain ⟨_, _, g1, _⟩ := g1
    obtain ⟨k1, e1, _⟩ := DataW.trod_int Tryz.underlying3 g1
    simp at e1
    have g2 := Rl.trod_leaf (e := 3) (o := 2) [0, 2] (by kernel_rfl) (by kernel_rfl) (by rw [Tryz.cells36']; exact Nat.le_of_ble_eq_true rfl) hf
    rw [Tryz.cells3'] at g2
    obtain ⟨_, _, g2, _⟩ := g2
    obtain ⟨k2, e2, _⟩ := DataW.trod_int Tryz.underlying3 g2
    simp at e2
    have g3 := Rl.trod_leaf (e := 3) (o := 3) [0, 3] (by kernel_rfl) (by kernel_rfl) (by rw [Tryz.cells36']; exact Nat.le_of_ble_eq_true rfl) hf
    rw [Tryz.cells3'] at g3
    obtain ⟨_, _, g3, _⟩ := g3
    obtain ⟨k3, e3, _⟩ := DataW.trod_int Tryz.underlying3 g3
    simp at e3
    have g4 := Rl.trod_leaf (e := 3) (o := 4) [0, 4] (by kernel_rfl) (by kernel_rfl) (by rw [Tryz.cells36']; exact Nat.le_of_ble_eq_true rfl) hf
    rw [Tryz.cells3'] at g4
    obtain ⟨_, _, g4, _⟩ := g4
    obtain ⟨k4, e4, _⟩ := DataW.trod_int Tryz.underlying3 g4
    simp at e4
    have g5 := Rl.trod_leaf (e := 3) (o := 5) [0, 5] (by kernel_rfl) (by kernel_rfl) (by rw [Tryz.cells36']; exact Nat.le_of_ble_eq_true rfl) hf
    rw [Tryz.cells3'] at g5
    obtain ⟨_, _, g5, _⟩ := g5
    obtain ⟨k5, e5, _⟩ := DataW.trod_int Tryz.underlying3 g5
    simp at e5
    have g6 := Rl.trod_leaf (e := 3) (o := 6) [0, 6] (by kernel_rfl) (by kernel_rfl) (by rw [Tryz.cells36']; exact Nat.le_of_ble_eq_true rfl) hf
    rw [Tryz.cells3'] at g6
    obtain ⟨_, _, g6, _⟩ := g6
    obtain ⟨k6, e6, _⟩ := DataW.trod_int Tryz.underlying3 g6
    simp at e6
    have g7 := Rl.trod_leaf (e := 3) (o := 7) [1, 0] (by kernel_rfl) (by kernel_rfl) (by rw [Tryz.cells36']; exact Nat.le_of_ble_eq_true rfl) hf
    rw [Tryz.cells3'] at g7
    obtain ⟨_, _, g7, _⟩ := g7
    obtain ⟨k7, e7, _⟩ := DataW.trod_int Tryz.underlying3 g7
    simp at e7
    have g8 := Rl.trod_leaf (e := 3) (o := 8) [1, 1] (by kernel_rfl) (by kernel_rfl) (by rw [Tryz.cells36']; exact Nat.le_of_ble_eq_true rfl) hf
    rw [Tryz.cells3'] at g8
    obtain ⟨_, _, g8, _⟩ := g8
    obtain ⟨k8, e8, _⟩ := DataW.trod_int Tryz.underlying3 g8
    simp at e8
    have g9 := Rl.trod_leaf (e := 28) (o := 9) [1, 2] (by kernel_rfl) (by kernel_rfl) (by rw [Tryz.cells36']; exact Nat.le_of_ble_eq_true rfl) hf
    rw [Tryz.cells28'] at g9
    obtain ⟨_, _, g9, _⟩ := g9
    obtain ⟨k9, e9, _⟩ := DataW.trod_int Tryz.underlying28 g9
    simp at e9
    have g10 := Rl.trod_leaf (e := 22) (o := 10) [1, 3] (by kernel_rfl) (by kernel_rfl) (by rw [Tryz.cells36']; exact Nat.le_of_ble_eq_true rfl) hf
    rw [Tryz.cells22'] at g10
    obtain ⟨_, _, g10, u10⟩ := g10
    obtain ⟨v10, l10, e10, b10⟩ := read_bytes_cs Tryz.cells5' Tryz.underlying22 Tryz.underlying5 g10
    have z10 := slice_reach e10 b10 g10 (fun n hn => hw n (u10 n hn))
    simp at e10
    have g11 := Rl.trod_leaf (e := 22) (o := 11) [1, 4] (by kernel_rfl) (by kernel_rfl) (by rw [Tryz.cells36']; exact Nat.le_of_ble_eq_true rfl) hf
    rw [Tryz.cells22'] at g11
    obtain ⟨_, _, g11, u11⟩ := g11
    obtain ⟨v11, l11, e11, b11⟩ := read_bytes_cs Tryz.cells5' Tryz.underlying22 Tryz.underlying5 g11
    have z11 := slice_reach e11 b11 g11 (fun n hn => hw n (u11 n hn))
    simp at e11
    have g12 := Rl.trod_leaf (e := 5) (o := 12) [2] (by kernel_rfl) (by kernel_rfl) (by rw [Tryz.cells36']; exact Nat.le_of_ble_eq_true rfl) hf
    rw [Tryz.cells5'] at g12
    obtain ⟨_, _, g12, _⟩ := g12
    obtain ⟨k12, e12, _, wb⟩ := DataW.trod_int Tryz.underlying5 g12
    simp at e12
    have hb : 0 ≤ k12 ∧ k12 ≤ 255 := by simpa [Lit.wf, IntKind.min, IntKind.max, IntKind.signed, IntKind.bits] using wb
    exact ⟨⟨⟨k0, k1, k2, k3, k4, k5, k6⟩, ⟨k7, k8, k9, l10, l11⟩, v10, v11, k12⟩, by simp [encF, e0, e1, e2, e3, e4, e5, e6, e7, e8, e9, e10, e11, e12], b10, b11, hb.1, hb.2, z10, z11⟩
set_option maxRecDepth 100000 in
theorem read_results {H : Type} {enc : TypeId × Value → H} {W : World} {base : Nat} {v : Value} {d : DataW H} {p : List MemPlace} (hv : Value.okWide Tryz.prog W .any base 23 v)
    (h : DataW.Trod enc Tryz.prog W 0 (fun _ => true) true 23 v d p) (hw : ∀ n ∈ d.weights Tryz.prog 23, n ≤ reachBytes) : ∃ l : List Rs, SlR W v l ∧ ∀ y ∈ l, y.ok W := read_valw (rd := encR) (Rl := fun y => y.ok W) Tryz.cells26' (by omega) encR_len Tryz.underlying23 (fun y h => rs_one h) res_of hv h hw
set_option maxRecDepth 100000 in
theorem read_failures {H : Type} {enc : TypeId × Value → H} {W : World} {base : Nat} {v : Value} {d : DataW H} {p : List MemPlace} (hv : Value.okWide Tryz.prog W .any base 24 v)
    (h : DataW.Trod enc Tryz.prog W 0 (fun _ => true) true 24 v d p) (hw : ∀ n ∈ d.weights Tryz.prog 24, n ≤ reachBytes) : ∃ l : List Fl, SlF W v l ∧ ∀ y ∈ l, y.ok W := read_valw (rd := encF) (Rl := fun y => y.ok W) Tryz.cells36' (by omega) encF_len Tryz.underlying24 (fun y h => fl_one h) fail_of hv h hw
end Go.Proofs.YtplhmoapcicncaaGreat
