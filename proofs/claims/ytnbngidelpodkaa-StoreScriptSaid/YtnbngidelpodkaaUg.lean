/- Undo: rows of records; no reference -/
import Derived.Test.YtnbngidelpodkaaUe
namespace Go.Un
open Go Go.RowKit Go.Bs Go.Cl Go.Rw
/-- v reads as the records rs (with the values of their bytes) -/
def Recs (F : List Nat) (w : World) (v : Value) (rs : List (Rec × Value)) : Prop := Raw F 3 w v rs.length (rs.flatMap encR) ∧ ∀ p ∈ rs, Bytes F w p.2 p.1.old
theorem Recs.below {F : List Nat} {w w' : World} {v : Value} {rs : List (Rec × Value)} (h : Recs F w v rs) (hb : Below w.heap.size w w') : Recs F w' v rs := ⟨Raw.below h.1 hb, fun p hp => Raw.below (h.2 p hp) hb⟩
def Rec.fits (r : Rec) : Prop := -9223372036854775808 ≤ r.off ∧ r.off ≤ 9223372036854775807 ∧ -9223372036854775808 ≤ r.len ∧ r.len ≤ 9223372036854775807
theorem Recs.elem {F : List Nat} {w : World} {a : Option Addr} {c n : Nat} {rs : List (Rec × Value)} (h : Recs F w (.slice a n c) rs) {i : Nat} (hi : i < rs.length) :
    ∃ b off, a = some ⟨b, off, none⟩ ∧ b < w.heap.size ∧ w.cell? ⟨b, off + i * 3, none⟩ = some (.int .i64 (recAt rs i).1.off) ∧ w.cell? ⟨b, off + i * 3 + 1, none⟩ = some (.int .i64 (recAt rs i).1.len) ∧ w.cell? ⟨b, off + i * 3 + 2, none⟩ = some (recAt rs i).2 ∧
      recAt rs i ∈ rs ∧ ∃ qa qc, (recAt rs i).2 = .slice qa (recAt rs i).1.old.length qc := by
  have hget := recAt_get hi
  have hm := List.mem_of_getElem? hget
  rcases Raw.cases h.1 with ⟨h0, _⟩ | ⟨_, b, off, cap, hv, _, _, hb, _, hc⟩
  · omega
  · cases hv
    exact ⟨b, off, rfl, hb, hc _ _ (flat_get encR encR_len rs i 0 _ hget (by omega)), hc _ _ (flat_get encR encR_len rs i 1 _ hget (by omega)), hc _ _ (flat_get encR encR_len rs i 2 _ hget (by omega)), hm, Raw.slice (h.2 _ hm)⟩
theorem all_ok_of {rs : List (Rec × Value)} (h : ∀ j, j < rs.length → (recAt rs j).1.ok = true) : (rs.map (·.1)).all Rec.ok = true := by
  rw [List.all_eq_true]
  intro r hr
  obtain ⟨p, hp, rfl⟩ := List.mem_map.1 hr
  obtain ⟨j, hj, rfl⟩ := List.mem_iff_getElem.1 hp
  have := h j hj
  have hg := recAt_get hj
  rw [List.getElem?_eq_getElem hj] at hg
  rw [Option.some.inj hg]; exact this
theorem all_not_ok {rs : List (Rec × Value)} {j : Nat} (hj : j < rs.length) (h : (recAt rs j).1.ok = false) : (rs.map (·.1)).all Rec.ok = false := by
  rw [List.all_eq_false]
  exact ⟨_, List.mem_map.2 ⟨_, List.mem_of_getElem? (recAt_get hj), rfl⟩, by simp [h]⟩
theorem takeAll_step (b : List UInt8) (rs : List (Rec × Value)) {m k : Nat} (h : m + k + 1 = rs.length) : takeAll b ((rs.drop (rs.length - (k + 1))).map (·.1)) = takeR (takeAll b ((rs.drop (rs.length - k)).map (·.1))) (recAt rs m).1 := by
  have e1 : rs.length - (k + 1) = m := by omega
  have e2 : rs.length - k = m + 1 := by omega
  have hml : m < rs.length := by omega
  rw [e1, e2, List.drop_eq_getElem_cons hml]
  have := recAt_get hml
  rw [List.getElem?_eq_getElem hml] at this
  rw [Option.some.inj this]
  rfl
theorem takeAll_le {b : List UInt8} (hb : b.length ≤ 1000000) : ∀ {l : List Rec}, l.all Rec.ok = true → (takeAll b l).length ≤ 1000000
  | [], _ => hb
  | r :: l, h => by
    simp only [List.all_cons, Bool.and_eq_true] at h
    have := Rec.ok_iff.1 h.1
    show (takeR (takeAll b l) r).length ≤ _
    rw [takeR_len h.1]; omega
/-- a row of the call's own that reads as the records rs; their bytes lie elsewhere -/
def RecsO (w : World) (base e : Nat) (v : Value) (l : List Rec) : Prop := ∃ rs : List (Rec × Value), rs.map (·.1) = l ∧ w.ownsRow base e 3 v rs.length (rs.flatMap encR) ∧ ∀ p ∈ rs, Bytes v.ownBlock.toList w p.2 p.1.old
theorem encR_one {w : World} {F : List Nat} {rs : List (Rec × Value)} (h : ∀ p ∈ rs, Bytes F w p.2 p.1.old) : ∀ u ∈ rs.flatMap encR, u.oneCell' = true := by
  intro u hu
  obtain ⟨p, hp, hu⟩ := List.mem_flatMap.1 hu
  obtain ⟨a, c, hv⟩ := Raw.slice (h p hp)
  simp [encR, hv] at hu
  rcases hu with rfl | rfl | rfl <;> rfl
theorem RecsO.recs {w : World} {base e : Nat} {v : Value} {l : List Rec} (h : RecsO w base e v l) : ∃ rs : List (Rec × Value), rs.map (·.1) = l ∧ Recs [] w v rs := by
  obtain ⟨rs, h1, h2, h3⟩ := h
  exact ⟨rs, h1, Raw.of_own h2 (encR_one h3) (fun f h => by cases h), fun p hp => Raw.to_nil (h3 p hp)⟩
end Go.Un
namespace Go.Proofs.Ytnbngidelpodkaa
open Go.RowKit Go.Bs Go.Cl Go.Rw Go.Un
theorem Bytes.of_own {F : List Nat} {w : World} {base e n : Nat} {v : Value} {l : List UInt8} (h : w.ownsRow base e 1 v n (bytesV l)) (hn : n = l.length) (hF : ∀ f ∈ F, f < base := by intro f h; cases h) : Bytes F w v l := by
  subst hn; exact Raw.of_own h (bytesV_one l) hF
theorem own_len {w : World} {base e n : Nat} {v : Value} {xs : List Value} (h : w.ownsRow base e 1 v n xs) : n = xs.length := by have := h.1; omega
def lenOf : Value → Nat | .slice _ n _ => n | _ => 0
/-- an image and an error -/
def RetI (r : List UInt8 × Int) (w : World) (e : Ending) (w' : World) : Prop := ∃ v, e = .returned (.tuple #[v, .int .i64 r.2]) ∧ Bytes [] w' v r.1 ∧ Below w.heap.size w w'
end Go.Proofs.Ytnbngidelpodkaa
