/- Undo: lists of records: the reference's Recover, Few; Recover; To -/
import Derived.Test.YteefimjgcabpoaaUf
namespace Go.Un
open Go Go.RowKit Go.Bs Go.Cl Go.Rw
/-- v reads as the records rs (with the values of their bytes) -/
def Recs (F : List Nat) (w : World) (v : Value) (rs : List (Rec × Value)) : Prop := Raw F 3 w v rs.length (rs.flatMap encR) ∧ ∀ p ∈ rs, Bytes F w p.2 p.1.old
theorem Recs.below {F : List Nat} {w w' : World} {v : Value} {rs : List (Rec × Value)} (h : Recs F w v rs) (hb : Below w.heap.size w w') : Recs F w' v rs := ⟨Raw.below h.1 hb, fun p hp => Raw.below (h.2 p hp) hb⟩
def Rec.fits (r : Rec) : Prop := -9223372036854775808 ≤ r.off ∧ r.off ≤ 9223372036854775807 ∧ -9223372036854775808 ≤ r.len ∧ r.len ≤ 9223372036854775807
theorem Recs.elem {F : List Nat} {w : World} {a : Option Addr} {c n : Nat} {rs : List (Rec × Value)} (h : Recs F w (.slice a n c) rs) {i : Nat} (hi : i < rs.length) :
    ∃ b off, a = some ⟨b, off, none⟩ ∧ b < w.heap.size ∧ w.cell? ⟨b, off + i * 3, none⟩ = some (.int .i64 (recAt rs i).1.off) ∧ w.cell? ⟨b, off + i * 3 + 1, none⟩ = some (.int .i64 (recAt rs i).1.len) ∧ w.cell? ⟨b, off + i * 3 + 2, none⟩ = some (recAt rs i).2 ∧
      recAt rs i ∈ rs ∧ ∃ qa qc, (recAt rs i).2 = .slice qa (recAt rs i).1.old.length qc := by
  have hget := recAt_get hi
  have hm := List.mem_of_getElem? hget
  rcases Raw.cases h.1 with ⟨h0, _⟩ | ⟨_, b, off, cap, hv, _, _, hb, _, hc⟩
  · omega
  · cases hv
    exact ⟨b, off, rfl, hb, hc _ _ (flat_get encR encR_len rs i 0 _ hget (by omega)), hc _ _ (flat_get encR encR_len rs i 1 _ hget (by omega)), hc _ _ (flat_get encR encR_len rs i 2 _ hget (by omega)), hm, Raw.slice (h.2 _ hm)⟩
theorem all_ok_of {rs : List (Rec × Value)} (h : ∀ j, j < rs.length → (recAt rs j).1.ok = true) : (rs.map (·.1)).all Rec.ok = true := by
  rw [List.all_eq_true]
  intro r hr
  obtain ⟨p, hp, rfl⟩ := List.mem_map.1 hr
  obtain ⟨j, hj, rfl⟩ := List.mem_iff_getElem.1 hp
  have := h j hj
  have hg := recAt_get hj
  rw [List.getElem?_eq_getElem hj] at hg
  rw [Option.some.inj hg]; exact this
theorem all_not_ok {rs : List (Rec × Value)} {j : Nat} (hj : j < rs.length) (h : (recAt rs j).1.ok = false) : (rs.map (·.1)).all Rec.ok = false := by
  rw [List.all_eq_false]
  exact ⟨_, List.mem_map.2 ⟨_, List.mem_of_getElem? (recAt_get hj), rfl⟩, by simp [h]⟩
theorem takeAll_step (b : List UInt8) (rs : List (Rec × Value)) {m k : Nat} (h : m + k + 1 = rs.length) : takeAll b ((rs.drop (rs.length - (k + 1))).map (·.1)) = takeR (takeAll b ((rs.drop (rs.length - k)).map (·.1))) (recAt rs m).1 := by
  have e1 : rs.length - (k + 1) = m := by omega
  have e2 : rs.length - k = m + 1 := by omega
  have hml : m < rs.length := by omega
  rw [e1, e2, List.drop_eq_getElem_cons hml]
  have := recAt_get hml
  rw [List.getElem?_eq_getElem hml] at this
  rw [Option.some.inj this]
  rfl
theorem takeAll_le {b : List UInt8} (hb : b.length ≤ 1000000) : ∀ {l : List Rec}, l.all Rec.ok = true → (takeAll b l).length ≤ 1000000
  | [], _ => hb
  | r :: l, h => by
    simp only [List.all_cons, Bool.and_eq_true] at h
    have := Rec.ok_iff.1 h.1
    show (takeR (takeAll b l) r).length ≤ _
    rw [takeR_len h.1]; omega
end Go.Un
namespace Go.Proofs.Yteefimjgcabpoaa
open Go.RowKit Go.Bs Go.Cl Go.Rw Go.Un

/-- an image and an error -/
def RetI (r : List UInt8 × Int) (w : World) (e : Ending) (w' : World) : Prop := ∃ v, e = .returned (.tuple #[v, .int .i64 r.2]) ∧ Bytes [] w' v r.1 ∧ Below w.heap.size w w'

theorem rproper_eq (r : Rec) (rv : Value) (b : Bool) (w : World) (hb : r.ok = b) (hr : ∃ a c, rv = .slice a r.old.length c) (hf : r.fits) :
    Calls Try.prog 34 #[.agg #[.int .i64 r.off, .int .i64 r.len, rv]] w fun e w' => e = .returned (.bool b) ∧ Below w.heap.size w w' := hb ▸ rproper_any r rv w hr hf.1 hf.2.1 hf.2.2.1 hf.2.2.2

set_option maxRecDepth 100000 in
set_option maxHeartbeats 1000000 in
theorem rrecover_any (bv rv : Value) (b : List UInt8) (rs : List (Rec × Value)) (w : World) (hb : b.length ≤ 1000000) (hl : rs.length ≤ 1000000) (hB : Bytes [] w bv b) (hR : Recs [] w rv rs) (hf : ∀ p ∈ rs, p.1.fits) :
    Calls Try.prog 13 #[bv, rv] w (RetI (recover b (rs.map (·.1))) w) := by
  obtain ⟨ra, rc, rfl⟩ := Raw.slice hR.1
  obtain ⟨ba, bc, rfl⟩ := Raw.slice hB
  have HR := Lib.hid hR; clear hR
  have HB := Lib.hid hB; clear hB
  have HF := Lib.hid hf; clear hf
  go_enter Try.func13, Try.ntmps13
  go_wp2
  go_loopw [6] (fun i wr => ∃ k : Nat, k ≤ rs.length ∧ i = .int .i64 k ∧ (∀ j, j < k → (recAt rs j).1.ok = true) ∧ Below w.heap.size w wr) (fun i _ => rs.length - (intOf i).toNat)
  case atStart => exact ⟨0, Nat.zero_le _, rfl, fun j h => absurd h (Nat.not_lt_zero _), Below.refl _ _⟩
  case round =>
    obtain ⟨k, hk, rfl, hok, hbel⟩ := hrel
    have Hok := Lib.hid hok; clear hok
    have hsz := hbel.size
    by_cases hlt : k < rs.length
    · obtain ⟨b0, off, rfl, _, h0, h1, h2, hm, qa, qc, hq⟩ := (HR.out.below hbel).elem hlt
      have hfit := HF.out _ hm
      obtain ⟨q, hqq⟩ : ∃ q, q = recAt rs k := ⟨_, rfl⟩
      cases hrok : (recAt rs k).1.ok
      all_goals
        have Hrok := Lib.hid hrok; clear hrok
        rw [← hqq] at h0 h1 h2 hq hfit hm
        have Hqq := Lib.hid hqq; clear hqq
        obtain ⟨⟨qo, ql, qb⟩, qv⟩ := q
        simp only at h0 h1 h2 hq
        subst hq
        have hro := Hrok.out
        rw [← Hqq.out] at hro
        have Hrok' := Lib.hid hro; clear hro
        have Hfit := Lib.hid hfit; clear hfit
        go_wp2_with fail
        refine (rproper_eq ⟨qo, ql, qb⟩ _ _ _ Hrok'.out ⟨_, _, rfl⟩ Hfit.out).mono ?_
        rintro e w1 ⟨rfl, hb1⟩
        have hbel1 := hbel.trans (hb1.mono hsz)
        go_wp2
      · go_ret2
        have e : recover b (rs.map (·.1)) = ([], 1) := by unfold recover; rw [all_not_ok hlt Hrok.out]; rfl
        rw [e]
        exact ⟨_, rfl, Raw.empty _ _ _, hbel1⟩
      · go_roundw
        case rel => exact ⟨k + 1, by omega, by go_num, fun j hj => by
          by_cases hjk : j < k
          · exact Hok.out j hjk
          · obtain rfl : j = k := by omega
            exact Hrok.out, hbel1⟩
        case measure => simp [intOf]; omega
    · obtain rfl : k = rs.length := by omega
      have hall := all_ok_of Hok.out
      have e : recover b (rs.map (·.1)) = (takeAll b (rs.map (·.1)), 0) := by unfold recover; rw [hall]; rfl
      have Hrec := Lib.hid e
      have Hall := Lib.hid hall
      clear e hall
      have hal := hbel.alloc hsz (.cells #[] 5)
      have Hemp := Lib.hid (own_empty wr w.heap.size 5 1 hsz)
      have HB1 := Lib.hid (Raw.below HB.out hal)
      go_wp2_with (at_builtin; refine wpList_app el22 Try.underlying22 Hemp.out HB1.out hal rfl _ _ rfl rfl rfl ?c3 (Nat.le_refl _) ?c5 ?_)
      case c3 => omega
      case c5 => omega
      intro v1 w1 hown1 hb1 hg1 hs1
      have HO1 : Hid (Bytes [] w1 v1 b) := Lib.hid (Bytes.of_own (by simpa using hown1) rfl)
      clear hown1 hg1
      go_wp2
      go_loopw [7, 8] (fun v i wr => ∃ k : Nat, k ≤ rs.length ∧ i = .int .i64 ((rs.length : Int) - 1 - (k : Int)) ∧ Bytes [] wr v (takeAll b ((rs.drop (rs.length - k)).map (·.1))) ∧ Below w.heap.size w wr) (fun _ i _ => (intOf i + 1).toNat)
      case atStart => exact ⟨0, Nat.zero_le _, by simp, by simpa [takeAll] using HO1.out, hb1⟩
      case round =>
        obtain ⟨k, hk2, rfl, hby, hbel2⟩ := hrel
        have hsz2 := hbel2.size
        by_cases hlt : k < rs.length
        · obtain ⟨m, hm⟩ : ∃ m : Nat, m + k + 1 = rs.length := ⟨rs.length - k - 1, by omega⟩
          have hmi : (rs.length : Int) - 1 - (k : Int) = (m : Int) := by omega
          rw [hmi]
          have hml : m < rs.length := by omega
          obtain ⟨b0, off, rfl, _, h0, h1, h2, hm2, qa, qc, hq⟩ := (HR.out.below hbel2).elem hml
          have hst := takeAll_step b rs hm
          have hlen : (takeAll b ((rs.drop (rs.length - k)).map (·.1))).length ≤ 1000000 := takeAll_le hb (by
            rw [List.all_eq_true]
            intro r hr
            obtain ⟨p, hp, rfl⟩ := List.mem_map.1 hr
            exact List.all_eq_true.1 Hall.out _ (List.mem_map.2 ⟨p, List.mem_of_mem_drop hp, rfl⟩))
          have hrok : (recAt rs m).1.ok = true := Hok.out m (by omega)
          obtain ⟨cur, hcur⟩ : ∃ c, c = takeAll b ((rs.drop (rs.length - k)).map (·.1)) := ⟨_, rfl⟩
          rw [← hcur] at hby hlen hst
          have Hby := Lib.hid hby; clear hby hcur
          have HQ := Lib.hid (Raw.below (HR.out.2 _ hm2) hbel2)
          obtain ⟨q, hqq⟩ : ∃ q, q = recAt rs m := ⟨_, rfl⟩
          rw [← hqq] at h0 h1 h2 hq hst hrok HQ
          obtain ⟨⟨qo, ql, qb⟩, qv⟩ := q
          simp only at h0 h1 h2 hq
          subst hq
          have Hst := Lib.hid hst
          have Hrok := Lib.hid hrok
          have hml' : (m : Int) < rs.length := by omega
          have hmi2 : (m : Int) - 1 = (rs.length : Int) - 1 - ((k + 1 : Nat) : Int) := by omega
          have Hmi2 := Lib.hid hmi2
          obtain ⟨va, vc, rfl⟩ := Raw.slice Hby.out
          clear hmi hst hrok hqq hmi2
          go_wp2_with fail
          refine (rtaken_any _ cur ⟨qo, ql, qb⟩ _ _ hlen Hrok.out Hby.out HQ.out).mono ?_
          rintro e w2 ⟨v2, rfl, hB2, hb2⟩
          have HB2 := Lib.hid hB2; clear hB2
          have hbel3 := hbel2.trans (hb2.mono hsz2)
          go_wp2
          go_roundw
          case rel => exact ⟨k + 1, by omega, by rw [Hmi2.out], by rw [Hst.out]; exact HB2.out, hbel3⟩
          case measure => simp [intOf]
        · obtain rfl : k = rs.length := by omega
          have hneg : (rs.length : Int) - 1 - (rs.length : Int) = -1 := by omega
          rw [hneg]
          have Hby := Lib.hid (show Bytes [] _ _ (takeAll b (rs.map (·.1))) from by simpa using hby)
          clear hby
          go_wp2
          go_ret2
          rw [Hrec.out]
          exact ⟨_, rfl, Hby.out, hbel2⟩
end Go.Proofs.Yteefimjgcabpoaa
