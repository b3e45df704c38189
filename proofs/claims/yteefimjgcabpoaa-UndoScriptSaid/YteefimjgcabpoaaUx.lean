/- Undo: few -/
import Derived.Test.YteefimjgcabpoaaUv
import Derived.Test.YteefimjgcabpoaaUw
namespace Go.Un
open Go Go.RowKit Go.Bs Go.Cl Go.Rw
def stpAt (ss : List (Stp × Value)) (j : Nat) : Stp × Value := ss.getD j (⟨0, 0, []⟩, .slice none 0 0)
theorem stpAt_get {ss : List (Stp × Value)} {j : Nat} (h : j < ss.length) : ss[j]? = some (stpAt ss j) := by simp [stpAt, h]
theorem StepL.elem {F : List Nat} {w : World} {a : Option Addr} {c n : Nat} {ss : List (Stp × Value)} (h : StepL F w (.slice a n c) ss) {i : Nat} (hi : i < ss.length) :
    ∃ b off, a = some ⟨b, off, none⟩ ∧ b < w.heap.size ∧ w.cell? ⟨b, off + i * 3, none⟩ = some (.int .i64 (stpAt ss i).1.op) ∧ w.cell? ⟨b, off + i * 3 + 1, none⟩ = some (.int .i64 (stpAt ss i).1.n) ∧ w.cell? ⟨b, off + i * 3 + 2, none⟩ = some (stpAt ss i).2 ∧ stpAt ss i ∈ ss ∧ ∃ qa qc, (stpAt ss i).2 = .slice qa (stpAt ss i).1.d.length qc := by
  have hget := stpAt_get hi
  have hm := List.mem_of_getElem? hget
  rcases Raw.cases h.1 with ⟨h0, _⟩ | ⟨_, b, off, cap, hv, _, _, hb, _, hc⟩
  · omega
  · cases hv
    exact ⟨b, off, rfl, hb, hc _ _ (flat_get encS encS_len ss i 0 _ hget (by omega)), hc _ _ (flat_get encS encS_len ss i 1 _ hget (by omega)), hc _ _ (flat_get encS encS_len ss i 2 _ hget (by omega)), hm, Raw.slice (h.2 _ hm)⟩
def goodS (s : Stp) : Bool := decide (s.d.length ≤ 300) && !(decide (s.op = 2) && decide (2000 < s.n) && decide (s.n ≤ 24000))
def fewS (b : List UInt8) (ss : List Stp) : Bool := ss.all goodS && decide (b.length ≤ 1000) && decide (ss.length ≤ 30)
theorem fewS_not {b : List UInt8} {ss : List (Stp × Value)} {k : Nat} (hk : k < ss.length) (h : goodS (stpAt ss k).1 = false) : fewS b (ss.map (·.1)) = false := by
  have : (ss.map (·.1)).all goodS = false := List.all_eq_false.2 ⟨(stpAt ss k).1, List.mem_map.2 ⟨_, List.mem_of_getElem? (stpAt_get hk), rfl⟩, by simp [h]⟩
  simp [fewS, this]
theorem fewS_all {b : List UInt8} {ss : List (Stp × Value)} (h : ∀ k, k < ss.length → goodS (stpAt ss k).1 = true) : fewS b (ss.map (·.1)) = (decide (b.length ≤ 1000) && decide (ss.length ≤ 30)) := by
  have : (ss.map (·.1)).all goodS = true := List.all_eq_true.2 fun x hx => by
    obtain ⟨p, hp, rfl⟩ := List.mem_map.1 hx
    obtain ⟨i, hi, he⟩ := List.mem_iff_getElem.1 hp
    have := h i hi
    rwa [show stpAt ss i = p by simp [stpAt, hi, he]] at this
  simp [fewS, this]
theorem fewS_at {b : List UInt8} {ss : List (Stp × Value)} (h : fewS b (ss.map (·.1)) = true) : b.length ≤ 1000 ∧ ss.length ≤ 30 ∧ ∀ p ∈ ss, goodS p.1 = true := by
  simp only [fewS, Bool.and_eq_true, decide_eq_true_eq, List.length_map] at h
  exact ⟨h.1.2, h.2, fun p hp => List.all_eq_true.1 h.1.1 _ (List.mem_map.2 ⟨p, hp, rfl⟩)⟩
theorem goodS_d {s : Stp} (h : goodS s = true) : s.d.length ≤ 300 := by simp [goodS] at h; exact h.1
theorem goodS_n {s : Stp} (h : goodS s = true) (h2 : s.op = 2) (h3 : s.n ≤ 24000) : s.n ≤ 2000 := by
  simp [goodS] at h
  omega
end Go.Un
namespace Go.Proofs.Yteefimjgcabpoaa
open Go.RowKit Go.Bs Go.Cl Go.Rw Go.Un
set_option maxRecDepth 100000 in
set_option maxHeartbeats 2000000 in
theorem fews_any (bv sv : Value) (b : List UInt8) (ss : List (Stp × Value)) (w : World) (hl : ss.length ≤ 9223372036854775807) (hb : ∃ a c, bv = .slice a b.length c) (hS : StepL [] w sv ss) :
    Calls Try.prog 14 #[bv, sv] w fun e w' => e = .returned (.bool (fewS b (ss.map (·.1)))) ∧ w = w' := by
  obtain ⟨ba, bc, rfl⟩ := hb
  obtain ⟨sa, sc, rfl⟩ := Raw.slice hS.1
  have HS := Lib.hid hS; clear hS
  go_enter Try.func14, Try.ntmps14
  go_wp2
  go_loop [5] (fun i => ∃ k : Nat, k ≤ ss.length ∧ i = .int .i64 k ∧ ∀ j, j < k → goodS (stpAt ss j).1 = true) (fun i => ss.length - (intOf i).toNat)
  case atStart => exact ⟨0, Nat.zero_le _, rfl, fun j h => absurd h (Nat.not_lt_zero _)⟩
  case round =>
    obtain ⟨k, hk, rfl, hok⟩ := hrel
    have Hok := Lib.hid hok; clear hok
    by_cases hlt : k < ss.length
    · obtain ⟨b0, off, rfl, hb0, h0, h1, h2, hm, qa, qc, hq⟩ := HS.out.elem hlt
      obtain ⟨q, hqq⟩ : ∃ q, q = stpAt ss k := ⟨_, rfl⟩
      rw [← hqq] at h0 h1 h2 hq
      have Hqq := Lib.hid hqq
      obtain ⟨⟨so, sn, sb⟩, qv⟩ := q
      simp only at h0 h1 h2 hq
      subst hq
      clear hqq hm
      have hnext : goodS ⟨so, sn, sb⟩ = true → ∀ j, j < k + 1 → goodS (stpAt ss j).1 = true := fun g j hj => by
        by_cases hjk : j < k
        · exact Hok.out j hjk
        · obtain rfl : j = k := by omega
          rw [← Hqq.out]; exact g
      have hbad : goodS ⟨so, sn, sb⟩ = false → fewS b (ss.map (·.1)) = false := fun g => fewS_not hlt (by rw [← Hqq.out]; exact g)
      have Hnext := Lib.hid hnext; clear hnext
      have Hbad := Lib.hid hbad; clear hbad
      by_cases g1 : 300 < sb.length
      · have g1' : (300 : Int) < sb.length := by omega
        have hf := Hbad.out (by simp [goodS]; omega)
        have Hf := Lib.hid hf; clear hf
        go_wp2
        go_ret
        exact ⟨ret_bool Hf.out.symm, rfl⟩
      have g1' : (sb.length : Int) ≤ 300 := by omega
      by_cases g2 : so = 2
      · subst g2
        by_cases g3 : 2000 < sn
        · by_cases g4 : sn ≤ 24000
          · have hf := Hbad.out (by simp [goodS, g3, g4])
            have Hf := Lib.hid hf; clear hf
            go_wp2
            go_ret
            exact ⟨ret_bool Hf.out.symm, rfl⟩
          · have g4' : 24000 < sn := by omega
            have hg := Hnext.out (by simp [goodS, g4]; omega)
            have Hg := Lib.hid hg; clear hg
            go_wp2
            go_round
            case rel => exact ⟨k + 1, by omega, by go_num, Hg.out⟩
            case measure => simp [intOf]; omega
        · have g3' : sn ≤ 2000 := by omega
          have hg := Hnext.out (by simp [goodS, g3]; omega)
          have Hg := Lib.hid hg; clear hg
          go_wp2
          go_round
          case rel => exact ⟨k + 1, by omega, by go_num, Hg.out⟩
          case measure => simp [intOf]; omega
      · have hg := Hnext.out (by simp [goodS, g2]; omega)
        have Hg := Lib.hid hg; clear hg
        have g2' : (so == 2) = false := by simpa using g2
        go_wp2
        go_round
        case rel => exact ⟨k + 1, by omega, by go_num, Hg.out⟩
        case measure => simp [intOf]; omega
    · obtain rfl : k = ss.length := by omega
      have Hall := Lib.hid (fewS_all (b := b) Hok.out)
      by_cases g1 : b.length ≤ 1000
      · have g1' : (b.length : Int) ≤ 1000 := by omega
        go_wp2
        go_ret
        exact ⟨ret_bool (by rw [Hall.out]; simp [g1]; omega), rfl⟩
      · have g1' : (1000 : Int) < b.length := by omega
        go_wp2
        go_ret
        exact ⟨ret_bool (by rw [Hall.out]; simp [g1]), rfl⟩
end Go.Proofs.Yteefimjgcabpoaa
