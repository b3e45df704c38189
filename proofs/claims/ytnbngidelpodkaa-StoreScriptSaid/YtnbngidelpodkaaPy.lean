/- Store: calls, few -/
import Derived.Test.YtnbngidelpodkaaPx
namespace Go.Proofs.Ytnbngidelpodkaa
open Go.RowKit Go.Bs Go.Cl Go.Rw Go.Un Go.Im
def encK (p : (Int × List UInt8) × Value) : List Value := [.int .i64 p.1.1, p.2]
theorem encK_len (p : (Int × List UInt8) × Value) : (encK p).length = 2 := rfl
def CallL (F : List Nat) (w : World) (v : Value) (ls : List ((Int × List UInt8) × Value)) : Prop := Raw F 2 w v ls.length (ls.flatMap encK) ∧ ∀ p ∈ ls, Bytes F w p.2 p.1.2
theorem CallL.below {F : List Nat} {w w' : World} {v : Value} {ls : List ((Int × List UInt8) × Value)} (h : CallL F w v ls) (hb : Below w.heap.size w w') : CallL F w' v ls := ⟨Raw.below h.1 hb, fun p hp => Raw.below (h.2 p hp) hb⟩
theorem CallL.at {w : World} {a : Option Addr} {n c : Nat} {ls : List ((Int × List UInt8) × Value)} (h : CallL [] w (.slice a n c) ls) {k : Nat} (hk : k < ls.length) :
    ∃ (b off : Nat) (op : Int) (x : List UInt8) (xa : Option Addr) (xc : Nat), a = some ⟨b, off, none⟩ ∧ b < w.heap.size ∧ w.cell? ⟨b, off + k * 2, none⟩ = some (.int .i64 op) ∧ w.cell? ⟨b, off + k * 2 + 1, none⟩ = some (.slice xa x.length xc) ∧ Bytes [] w (.slice xa x.length xc) x ∧ ls[k]? = some ((op, x), .slice xa x.length xc) := by
  have hg := List.getElem?_eq_getElem hk
  obtain ⟨q, hq⟩ : ∃ q, q = ls[k] := ⟨_, rfl⟩
  have hb := h.2 _ (List.mem_of_getElem? hg)
  rw [← hq] at hb hg
  obtain ⟨⟨op, x⟩, xv⟩ := q
  simp only at hb
  obtain ⟨xa, xc, rfl⟩ := Raw.slice hb
  rcases Raw.cases h.1 with ⟨h0, _⟩ | ⟨_, b, off, cap, hv, _, _, hlt, _, hc⟩
  · omega
  · cases hv
    refine ⟨b, off, op, x, xa, xc, rfl, hlt, ?_, ?_, hb, hg⟩
    · exact hc (k * 2 + 0) _ (by rw [flat_get encK encK_len ls k 0 _ hg (by omega)]; rfl)
    · rw [Nat.add_assoc]; exact hc (k * 2 + 1) _ (by rw [flat_get encK encK_len ls k 1 _ hg (by omega)]; rfl)
def fewB (b : List UInt8) (ls : List (Int × List UInt8)) : Bool := ls.all (fun p => decide (p.2.length ≤ 700)) && (decide (b.length ≤ 700) && decide (ls.length ≤ 40))
set_option maxHeartbeats 1000000 in
theorem few_any (ba : Option Addr) (bc : Nat) (lv : Value) (b : List UInt8) (ls : List ((Int × List UInt8) × Value)) (w : World) (hL : CallL [] w lv ls) :
    Calls Try.prog 23 #[.slice ba b.length bc, lv] w fun e w' => e = .returned (.bool (fewB b (ls.map (·.1)))) ∧ w = w' := by
  obtain ⟨la, lc, rfl⟩ := Raw.slice hL.1
  have hlm : ls.length ≤ 9223372036854775807 := by
    obtain ⟨_, _, _, _, e, h1, h2, _⟩ := hL.1
    cases e; unfold maxLen at h2; omega
  have HL := Lib.hid hL
  obtain ⟨n, hn⟩ : ∃ n, n = ls.length := ⟨_, rfl⟩
  have HN := Lib.hid hn
  rw [← hn] at hlm ⊢
  obtain ⟨r, hr⟩ : ∃ r, r = fewB b (ls.map (·.1)) := ⟨_, rfl⟩
  have HR := Lib.hid hr
  rw [← hr]
  clear hL hn hr
  go_enter Try.func23, Try.ntmps23
  go_wp2
  go_loopw [5] (fun i wr => ∃ k : Nat, k ≤ n ∧ i = .int .i64 (k : Int) ∧ wr = w ∧ ∀ p ∈ ls.take k, p.1.2.length ≤ 700) (fun i _ => n - (intOf i).toNat)
  case atStart => exact ⟨0, by omega, rfl, rfl, by simp⟩
  case round =>
    obtain ⟨k, hkn, rfl, rfl, hall⟩ := hrel
    have HA := Lib.hid hall
    clear hall
    by_cases hlt : k < n
    · have hki : (k : Int) < n := by omega
      obtain ⟨lb, lo, op, x, xa, xc, hlae, _, _, hcx, _, hgx⟩ := HL.out.at (k := k) (by rw [← HN.out]; exact hlt)
      subst hlae
      have HG := Lib.hid hgx
      clear hgx
      by_cases hx : x.length ≤ 700
      · have hxi : ¬ (700 : Int) < x.length := by omega
        go_wp2
        go_roundw
        case rel =>
          refine ⟨k + 1, by omega, by go_num, by first | rfl | trivial, fun p hp => ?_⟩
          rw [List.take_add_one, HG.out] at hp
          rcases List.mem_append.1 hp with hp | hp
          · exact HA.out p hp
          · simp at hp; subst hp; exact hx
        case measure => simp [intOf]; omega
      · have hxi : (700 : Int) < x.length := by omega
        have hrf : r = false := by
          rw [HR.out]
          have : (ls.map (·.1)).all (fun p => decide (p.2.length ≤ 700)) = false := by
            rw [List.all_eq_false]
            exact ⟨(op, x), List.mem_map.2 ⟨_, List.mem_of_getElem? HG.out, rfl⟩, by simpa using hx⟩
          simp [fewB, this]
        subst hrf
        go_wp2
        go_ret
        exact ⟨rfl, rfl⟩
    · obtain rfl : k = n := by omega
      have hall : (ls.map (·.1)).all (fun p => decide (p.2.length ≤ 700)) = true := by
        rw [List.all_eq_true]
        intro x hx
        obtain ⟨p, hp, rfl⟩ := List.mem_map.1 hx
        have := HA.out p (by rw [HN.out, List.take_length]; exact hp)
        simpa using this
      have hr2 : r = (decide (b.length ≤ 700) && decide (k ≤ 40)) := by
        rw [HR.out]; simp [fewB, hall, ← HN.out]
      have HR2 := Lib.hid hr2
      by_cases h1 : b.length ≤ 700
      · have h1i : (b.length : Int) ≤ 700 := by omega
        by_cases h2 : k ≤ 40
        · have h2i : (k : Int) ≤ 40 := by omega
          have hrt : r = true := by rw [HR2.out]; simp [h1, h2]
          subst hrt
          clear hr2 hall hkn
          go_wp2
          go_ret
          exact ⟨rfl, rfl⟩
        · have h2i : ¬ (k : Int) ≤ 40 := by omega
          have hrt : r = false := by rw [HR2.out]; simp [h2]
          subst hrt
          clear hr2 hall hkn
          go_wp2
          go_ret
          exact ⟨rfl, rfl⟩
      · have h1i : ¬ (b.length : Int) ≤ 700 := by omega
        have hrt : r = false := by rw [HR2.out]; simp [h1]
        subst hrt
        clear hr2 hall hkn
        go_wp2
        go_ret
        exact ⟨rfl, rfl⟩
end Go.Proofs.Ytnbngidelpodkaa
