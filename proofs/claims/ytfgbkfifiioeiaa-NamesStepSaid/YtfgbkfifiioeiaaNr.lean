/- names: the reference's Find, drop -/
import Derived.Test.YtfgbkfifiioeiaaNl
namespace Go.Nm
open Go Go.RowKit Go.Bs Go.Cl Go.Rw Go.Wi
theorem fnd_first {l : List Nm} {s : List UInt8} {i : Nat} (hi : i < l.length) (h1 : ∀ z ∈ l.take i, z.s ≠ s) (h : (nmAt l i).s = s) : fnd l s = (nmAt l i).t := by
  unfold fnd
  have : l.find? (fun x => x.s == s) = some (nmAt l i) := by
    conv => lhs; rw [split_at hi]
    rw [List.find?_append, List.find?_eq_none.2 (fun z hz => by simp [h1 z hz])]
    simp [h]
  rw [this]
theorem del_take {l : List Nm} {s : List UInt8} {k : Nat} (h : k < l.length) : delN (l.take (k + 1)) s = delN (l.take k) s ++ if (nmAt l k).s = s then [] else [nmAt l k] := by
  unfold delN
  rw [List.take_add_one, nm_get h, List.filter_append]
  congr 1
  by_cases e : (nmAt l k).s = s
  · simp [e]
  · simp [e]
theorem del_len (l : List Nm) (s : List UInt8) : (delN l s).length ≤ l.length := List.length_filter_le _ _
end Go.Nm
namespace Go.Proofs.Ytfgbkfifiioeiaa
open Go.RowKit Go.Bs Go.Cl Go.Rw Go.Nm Go.Wi
set_option maxRecDepth 100000 in
set_option maxHeartbeats 2000000 in
theorem rfind_any (v : Value) (l : List Nm) (s : List UInt8) (w : World) (hl : l.length ≤ 1000000) (h : SlN w v l) :
    Calls Try.prog 68 #[v, .string (strOf s)] w fun e w' => e = .returned (.int .i64 (fnd l s)) ∧ Below w.heap.size w w' := by
  obtain ⟨a, cap, rfl⟩ := Raw.slice h
  have H := Lib.hid h; clear h
  go_enter Try.func68, Try.ntmps68
  go_wp2
  go_loopw [5] (fun i wr => ∃ k : Nat, k ≤ l.length ∧ i = .int .i64 k ∧ (∀ z ∈ l.take k, z.s ≠ s) ∧ Below w.heap.size w wr) (fun i _ => l.length - (intOf i).toNat)
  case atStart => exact ⟨0, Nat.zero_le _, rfl, fun z hz => by simp at hz, Below.refl _ _⟩
  case round =>
    obtain ⟨k, hk, rfl, hno, hbel⟩ := hrel
    have hsz := hbel.size
    have HNO := Lib.hid hno
    clear hno
    by_cases hlt : k < l.length
    · obtain ⟨b, off, rfl, hb, h0, h1⟩ := (H.out.below hbel).elem hlt
      by_cases he : (nmAt l k).s = s
      · have HF := Lib.hid (fnd_first hlt HNO.out he)
        have q : ((strOf (nmAt l k).s).toList == (strOf s).toList) = true := by rw [he]; simp
        obtain ⟨z, hz⟩ : ∃ z, nmAt l k = z := ⟨_, rfl⟩
        rw [hz] at h0 h1 q HF
        clear hz he
        go_wp2
        go_ret
        rw [HF.out]
        exact ⟨rfl, hbel⟩
      · have q : ((strOf (nmAt l k).s).toList == (strOf s).toList) = false := by rw [strOf_list, strOf_list]; simp [he]
        have HN2 : Hid (∀ z ∈ l.take (k + 1), z.s ≠ s) := Lib.hid (fun z hz => by
          rw [List.take_add_one, nm_get hlt] at hz
          rcases List.mem_append.1 hz with hz | hz
          · exact HNO.out z hz
          · simp at hz; rw [hz]; exact he)
        obtain ⟨z, hz⟩ : ∃ z, nmAt l k = z := ⟨_, rfl⟩
        rw [hz] at h0 h1 q
        clear hz he
        go_wp2
        go_roundw
        case rel => exact ⟨k + 1, by omega, by go_num, HN2.out, hbel⟩
        case measure => simp [intOf]; omega
    · obtain rfl : k = l.length := by omega
      rw [List.take_length] at HNO
      have HF := Lib.hid (fnd_none HNO.out)
      go_wp2
      go_ret
      rw [HF.out]
      exact ⟨rfl, hbel⟩
set_option maxRecDepth 100000 in
set_option maxHeartbeats 2000000 in
theorem rdrop_any (v : Value) (l : List Nm) (s : List UInt8) (w : World) (hl : l.length ≤ 1000000) (h : SlN w v l) :
    Calls Try.prog 70 #[v, .string (strOf s)] w fun e w' => ∃ v', e = .returned v' ∧ SlN w' v' (delN l s) ∧ Below w.heap.size w w' := by
  obtain ⟨a, cap, rfl⟩ := Raw.slice h
  have H := Lib.hid h; clear h
  go_enter Try.func70, Try.ntmps70
  go_wp2
  go_loopw [5, 6] (fun ov i wr => ∃ k : Nat, k ≤ l.length ∧ i = .int .i64 k ∧ wr.ownsRow w.heap.size 57 2 ov (delN (l.take k) s).length ((delN (l.take k) s).flatMap encN) ∧ Below w.heap.size w wr) (fun _ i _ => l.length - (intOf i).toNat)
  case atStart => exact ⟨0, Nat.zero_le _, rfl, World.ownsRow_nil _ _ _ _, Below.refl _ _⟩
  case round =>
    obtain ⟨k, hk, rfl, hown, hbel⟩ := hrel
    have hsz := hbel.size
    have htl : (delN (l.take k) s).length ≤ l.length := Nat.le_trans (del_len _ _) (by simp; omega)
    by_cases hlt : k < l.length
    · obtain ⟨b, off, rfl, hb, h0, h1⟩ := (H.out.below hbel).elem hlt
      have Htk := Lib.hid (del_take (s := s) hlt)
      obtain ⟨A, hA⟩ : ∃ A, delN (l.take k) s = A := ⟨_, rfl⟩
      rw [hA] at Htk hown htl
      by_cases he : (nmAt l k).s = s
      · have q : ((strOf (nmAt l k).s).toList == (strOf s).toList) = true := by rw [he]; simp
        have q2 : ((strOf (nmAt l k).s).toList != (strOf s).toList) = false := by rw [bne, q]; rfl
        have HT2 : Hid (delN (l.take (k + 1)) s = A) := Lib.hid (by rw [Htk.out, if_pos he, List.append_nil])
        have Hown := Lib.hid hown; clear hown
        obtain ⟨z, hz⟩ : ∃ z, nmAt l k = z := ⟨_, rfl⟩
        rw [hz] at h0 h1 q q2
        clear hz he hA Htk
        go_wp2
        go_roundw
        case rel => exact ⟨k + 1, by omega, by go_num, by rw [HT2.out]; exact Hown.out, hbel⟩
        case measure => simp [intOf]; omega
      · have q : ((strOf (nmAt l k).s).toList == (strOf s).toList) = false := by rw [strOf_list, strOf_list]; simp [he]
        have q2 : ((strOf (nmAt l k).s).toList != (strOf s).toList) = true := by rw [bne, q]; rfl
        have HT2 : Hid (delN (l.take (k + 1)) s = A ++ [nmAt l k]) := Lib.hid (by rw [Htk.out, if_neg he])
        have Hown := Lib.hid hown; clear hown
        obtain ⟨z, hz⟩ : ∃ z, nmAt l k = z := ⟨_, rfl⟩
        rw [hz] at h0 h1 q q2 HT2
        clear hz he hA Htk
        have hbel1 := hbel.alloc hsz (.cells #[.string (strOf z.s), .int .i64 z.t] 57)
        have Hx := Lib.hid (boxN wr.heap.size z (heap_alloc_new wr (.cells #[.string (strOf z.s), .int .i64 z.t] 57)))
        go_wp2_with (at_builtin; refine wpList_app el22 Try.underlying22 (Hown.out.alloc _) Hx.out hbel1 rfl _ _ rfl rfl rfl ?c3 (Nat.le_refl _) ?c5 ?_)
        case c3 => omega
        case c5 => first | omega | (simp; omega)
        intro v2 w2 hown2 hb2 hg2 hs2
        have Hfin : Hid (w2.ownsRow w.heap.size 57 2 v2 (delN (l.take (k + 1)) s).length ((delN (l.take (k + 1)) s).flatMap encN)) := Lib.hid (by
          rw [HT2.out]
          have := hown2
          rw [List.flatMap_append, List.length_append]
          simpa using this)
        clear hown2 hg2
        go_wp2
        go_roundw
        case rel => exact ⟨k + 1, by omega, by go_num, Hfin.out, hb2⟩
        case measure => simp [intOf]; omega
    · obtain rfl : k = l.length := by omega
      rw [List.take_length] at hown
      have Hfin := Lib.hid (SlN.of_own hown); clear hown
      go_wp2
      go_ret
      exact ⟨_, rfl, Hfin.out, hbel⟩
end Go.Proofs.Ytfgbkfifiioeiaa
