/- Undo: what a text decodes to, and the reference's Decode -/
import Derived.Test.YteefimjgcabpoaaVd
namespace Go.Un
open Go Go.RowKit Go.Bs Go.Cl Go.Rw Go.Wi
/-- the records that n readings give, and where they stop -/
def decRN (b : List UInt8) : Nat → Nat × Bool → List Rec → List Rec × Nat × Bool
  | 0, s, acc => (acc, s)
  | n + 1, s, acc => decRN b n (rY b b.length (rI b (rI b s).2).2).2 (acc ++ [⟨(rI b s).1, (rI b (rI b s).2).1, (rY b b.length (rI b (rI b s).2).2).1⟩])
theorem decRN_succ (b : List UInt8) (n : Nat) (s : Nat × Bool) (acc : List Rec) : decRN b (n + 1) s acc = decRN b n (rY b b.length (rI b (rI b s).2).2).2 (acc ++ [⟨(rI b s).1, (rI b (rI b s).2).1, (rY b b.length (rI b (rI b s).2).2).1⟩]) := rfl
/-- the records with this encoding, or nothing, and the error -/
def decR (b : List UInt8) : List Rec × Int :=
  let r := decRN b (rB b 0 b.length (0, false)).1.toNat (rB b 0 b.length (0, false)).2 []
  if rEnd b r.2 = 0 then (r.1, 0) else ([], 4)
def RetD (r : List Rec × Int) (w : World) (e : Ending) (w' : World) : Prop := ∃ v ts, e = .returned (.tuple #[v, .int .i64 r.2]) ∧ Recs [] w' v ts ∧ ts.map (·.1) = r.1 ∧ Below w.heap.size w w'
theorem rEnd_cases (b : List UInt8) (s : Nat × Bool) : rEnd b s = 0 ∨ rEnd b s = 4 := by
  unfold rEnd
  split
  · exact .inr rfl
  · exact .inl rfl
/-- the old contents of rows of records lie apart from these blocks -/
def Olds (F : List Nat) (w : World) (acc : List (Rec × Value)) : Prop := ∀ p ∈ acc, Bytes F w p.2 p.1.old
variable {F F' G O O' : List Nat} {w w' : World} {acc : List (Rec × Value)} {T : TypeId} {g : Nat} {rv v : Value} {b : List UInt8} {s : Nat × Bool}
theorem Olds.keep (h : Olds F w acc) (hk : Keep G w w') (hG : ∀ f ∈ G, f ∈ F ∨ w.heap.size ≤ f) (hF : ∀ f ∈ F', f ∈ F ∨ w.heap.size ≤ f) : Olds F' w' acc := fun p hp => Raw.keep (h p hp) hk hG hF
theorem Olds.below (h : Olds F w acc) (hb : Below w.heap.size w w') : Olds F w' acc := fun p hp => Raw.below (h p hp) hb
theorem Olds.read (h : Olds F w acc) (hr : RdR T w g rv b s w') (hg : g ∈ F) : Olds F w' acc :=
  h.keep hr.2 (fun f hf => .inl (by rw [List.mem_singleton.1 hf]; exact hg)) (fun f hf => .inl hf)
theorem Olds.push {r : Rec} (h : Olds (g :: O) w acc) (hx : Bytes (g :: O) w v r.old) (hk : Keep O w w') (hn : ∀ f ∈ O', f ∈ O ∨ w.heap.size ≤ f) : Olds (g :: O') w' (acc ++ [(r, v)]) := fun p hp => by
  have hG : ∀ f ∈ O, f ∈ g :: O ∨ w.heap.size ≤ f := fun f hf => .inl (List.mem_cons_of_mem _ hf)
  have hF : ∀ f ∈ g :: O', f ∈ g :: O ∨ w.heap.size ≤ f := fun f hf => by
    rcases List.mem_cons.1 hf with rfl | hf
    · exact .inl (List.mem_cons_self ..)
    · rcases hn f hf with h1 | h1
      · exact .inl (List.mem_cons_of_mem _ h1)
      · exact .inr h1
  rcases List.mem_append.1 hp with hp | hp
  · exact Raw.keep (h p hp) hk hG hF
  · rw [List.mem_singleton.1 hp]; exact Raw.keep hx hk hG hF
theorem box3 (g : Nat) (p : Rec × Value) {t : TypeId} {a : Option Addr} {n c : Nat} (hp : p.2 = .slice a n c) (h : w.heap[g]? = some (.cells #[.int .i64 p.1.off, .int .i64 p.1.len, p.2] t (0, 0))) : Raw [] 3 w (.slice (some ⟨g, 0, none⟩) 1 1) 1 (encR p) :=
  Raw.of_block (ys := encR p) h (by intro h; cases h) (by intro u hu; simp [encR] at hu; rcases hu with rfl | rfl | rfl; rfl; rfl; rw [hp]; rfl) rfl (Nat.le_refl _) (by unfold maxLen; omega)
theorem Recs.of_own {base e : Nat} {ov : Value} (h : w.ownsRow base e 3 ov acc.length (acc.flatMap encR)) (ho : Olds F w acc) : Recs [] w ov acc :=
  ⟨Raw.of_own h (encR_one ho) (fun f hf => by cases hf), fun p hp => Raw.to_nil (ho p hp)⟩
end Go.Un
namespace Go.Proofs.Yteefimjgcabpoaa
open Go.RowKit Go.Bs Go.Cl Go.Rw Go.Un Go.Wi
set_option maxRecDepth 100000 in
set_option maxHeartbeats 2000000 in
theorem rdecode_any (bv : Value) (b : List UInt8) (w : World) (hB : Bytes [] w bv b) (hbl : b.length ≤ 500000) :
    Calls Try.prog 28 #[bv] w (RetD (decR b) w) := by
  obtain ⟨ba, bc, rfl⟩ := Raw.slice hB
  have hbl6 : b.length ≤ 1000000 := by omega
  have hal := (Below.refl w.heap.size w).alloc (Nat.le_refl _) (.cells #[] 5)
  have Hemp := Lib.hid (own_empty w w.heap.size 5 1 (Nat.le_refl _))
  have HB1 := Lib.hid (Raw.below hB hal)
  clear hB
  obtain ⟨rv0, hr0⟩ : ∃ r, rB b 0 b.length (0, false) = r := ⟨_, rfl⟩
  have hbd := rB_bound b (lo := 0) (hi := b.length) (by omega) (by omega) (0, false)
  have hdec : decR b = (if rEnd b (decRN b rv0.1.toNat rv0.2 []).2 = 0 then ((decRN b rv0.1.toNat rv0.2 []).1, 0) else ([], 4)) := by unfold decR; rw [hr0]
  have Hdec := Lib.hid hdec; clear hdec
  rw [hr0] at hbd
  obtain ⟨nI, s0⟩ := rv0
  simp only at hbd Hdec
  obtain ⟨n, rfl⟩ : ∃ n : Nat, nI = n := ⟨nI.toNat, by omega⟩
  rw [Int.toNat_natCast] at Hdec
  have Hr0 := Lib.hid hr0; clear hr0
  have hn32 : n ≤ 500000 := by omega
  clear hbd
  go_enter Try.func28, Try.ntmps28
  go_wp2_with (at_builtin; refine wpList_app elB Try.underlying22 Hemp.out HB1.out hal rfl _ _ rfl rfl rfl ?c3 ?cB ?c5 ?_)
  case c3 => omega
  case cB => exact Nat.le_refl _
  case c5 => simp
  intro v1 w1 hown1 hb1 hg1 hs1
  have hrow : BRow 5 w1 w.heap.size v1 b := by show w1.ownsRow w.heap.size 5 1 v1 b.length (bytesV b); simpa using hown1
  obtain ⟨a1, c1, rfl⟩ := own_slice hrow
  have hal2 := (Below.refl w1.heap.size w1).alloc (Nat.le_refl _) (.cells #[.slice a1 b.length c1, .int .i64 0, .bool false] 86)
  have hby : Bytes [w1.heap.size] (w1.alloc (.cells #[.slice a1 b.length c1, .int .i64 0, .bool false] 86)) (.slice a1 b.length c1) b :=
    Raw.keep (BRow.bytes (F := []) hrow (fun f hf => by cases hf)) (Keep.of_below' (F := []) hal2) (fun f hf => by cases hf) (fun f hf => by rw [List.mem_singleton.1 hf]; exact .inr (Nat.le_refl _))
  have hrd : RdAt 86 (w1.alloc (.cells #[.slice a1 b.length c1, .int .i64 0, .bool false] 86)) w1.heap.size (.slice a1 b.length c1) b 0 false := ⟨heap_alloc_new w1 _, hby, Nat.zero_le _⟩
  have hg : w.heap.size ≤ w1.heap.size := hb1.size
  have hbel1 := hb1.trans (hal2.mono hg)
  obtain ⟨rv, hrv⟩ : ∃ rv : Value, rv = .slice a1 b.length c1 := ⟨_, rfl⟩
  rw [← hrv] at hrd hbel1
  obtain ⟨g, hgd⟩ : ∃ g, g = w1.heap.size := ⟨_, rfl⟩
  rw [← hgd] at hrd hg
  have Hgd := Lib.hid hgd
  have Hrv := Lib.hid hrv
  have Hrd := Lib.hid hrd
  have Hbel := Lib.hid hbel1
  clear hrow hown1 hg1 hal2 hby hrd hbel1 hgd hrv
  go_wp2_with fail
  rw [← Hgd.out, ← Hrv.out]
  refine (rBounded_any g rv b 0 false 0 b.length _ Hrd.out hbl6).mono ?_
  rw [Hr0.out]
  rintro e w2 ⟨rfl, hR2⟩
  have hbel2 := RdR.low hR2 hg Hbel.out.size Hbel.out
  have HO := Lib.hid (RdO.start (enc := encR) (k := 3) (e := 66) (base := w.heap.size) hR2.1)
  clear hR2
  go_wp2
  go_loopw [6, 7] (fun ov i wr => ∃ (k : Nat) (s : Nat × Bool) (acc : List (Rec × Value)), k ≤ n ∧ i = .int .i64 k ∧ acc.length = k ∧ decRN b (n - k) s (acc.map (·.1)) = decRN b n s0 [] ∧ RdO encR 3 86 66 wr w.heap.size g rv b s ov acc ∧ Olds (g :: ov.ownBlock.toList) wr acc ∧ Below w.heap.size w wr) (fun _ i _ => n - (intOf i).toNat)
  case atStart => exact ⟨0, s0, [], Nat.zero_le _, rfl, rfl, rfl, HO.out, (fun p hp => by cases hp), hbel2⟩
  case round =>
    clear HO hbel2
    obtain ⟨k, s, acc, hk, rfl, hacc, hdk, hO, hL, hbel⟩ := hrel
    obtain ⟨oa, oc, rfl⟩ := own_slice hO.row
    have HO := Lib.hid hO; clear hO
    have HL := Lib.hid hL; clear hL
    have Hdk := Lib.hid hdk; clear hdk
    have hsz := hbel.size
    have Hacc := Lib.hid hacc; clear hacc
    by_cases hlt : k < n
    · obtain ⟨r1, hr1⟩ : ∃ r, rI b s = r := ⟨_, rfl⟩
      obtain ⟨t, s1⟩ := r1
      obtain ⟨r2, hr2⟩ : ∃ r, rI b s1 = r := ⟨_, rfl⟩
      obtain ⟨q, s2⟩ := r2
      obtain ⟨r3, hr3⟩ : ∃ r, rY b b.length s2 = r := ⟨_, rfl⟩
      obtain ⟨y, s3⟩ := r3
      have hd2 : decRN b (n - (k + 1)) s3 (acc.map (·.1) ++ [⟨t, q, y⟩]) = decRN b n s0 [] := by
        have := Hdk.out
        rw [show n - k = (n - (k + 1)) + 1 by omega] at this
        rw [decRN_succ, hr1] at this
        simp only at this
        rw [hr2] at this
        simp only at this
        rw [hr3] at this
        exact this
      have Hd2 := Lib.hid hd2; clear hd2
      have Hr1 := Lib.hid hr1; have Hr2 := Lib.hid hr2; have Hr3 := Lib.hid hr3; clear hr1 hr2 hr3
      have hlt' : (k : Int) < n := by omega
      have hgw := HO.out.rd.lt
      go_wp2_with fail
      refine (rInt_any g rv b s.1 s.2 _ HO.out.rd hbl6).mono ?_
      rw [show ((s.1, s.2) : Nat × Bool) = s from rfl, Hr1.out]
      rintro e w3 ⟨rfl, hR3⟩
      have hbel3 := RdR.low hR3 hg hsz hbel
      have HO3 := Lib.hid (HO.out.read hR3)
      have HL3 := Lib.hid (HL.out.read hR3 (List.mem_cons_self ..))
      clear hR3
      simp only
      go_wp2_with fail
      refine (rInt_any g rv b s1.1 s1.2 _ HO3.out.rd hbl6).mono ?_
      rw [show ((s1.1, s1.2) : Nat × Bool) = s1 from rfl, Hr2.out]
      rintro e w5 ⟨rfl, hR5⟩
      have hbel5 := RdR.low hR5 hg hbel3.size hbel3
      have HO5 := Lib.hid (HO3.out.read hR5)
      have HL5 := Lib.hid (HL3.out.read hR5 (List.mem_cons_self ..))
      clear hR5
      simp only
      go_wp2_with fail
      refine (rBytes_any g rv b s2.1 s2.2 b.length _ HO5.out.rd hbl6).mono ?_
      rw [show ((s2.1, s2.2) : Nat × Bool) = s2 from rfl, Hr3.out]
      rintro e w6 ⟨v6, rfl, hrow6, hR6⟩
      simp only at hrow6 hR6
      have hbel6 := RdR.low hR6 hg hbel5.size hbel5
      have hO6 := HO5.out.read hR6
      have hL6 := HL5.out.read hR6 (List.mem_cons_self ..)
      have hX6 : Bytes (g :: (Value.ownBlock (.slice oa acc.length oc)).toList) w6 v6 y := BRow.bytes hrow6 (fun f hf => by
        rcases List.mem_cons.1 hf with rfl | hf
        · exact HO5.out.rd.lt
        · exact (HO5.out.row.lt f (by simpa using hf)).2)
      obtain ⟨a6, c6, rfl⟩ := own_slice hrow6
      have hal6 := (Below.refl w6.heap.size w6).alloc (Nat.le_refl _) (.cells #[.int .i64 t, .int .i64 q, .slice a6 y.length c6] 66)
      have hal7 := hal6.alloc (by simp) (.cells #[.int .i64 t, .int .i64 q, .slice a6 y.length c6] 66)
      have HO7 := Lib.hid (hO6.below hal7)
      have HL7 := Lib.hid (hL6.below hal7)
      have HX7 := Lib.hid (Raw.below hX6 hal7)
      have hbel7 := hbel6.trans (hal7.mono hbel6.size)
      have hx7 : ((w6.alloc (.cells #[.int .i64 t, .int .i64 q, .slice a6 y.length c6] 66)).alloc (.cells #[.int .i64 t, .int .i64 q, .slice a6 y.length c6] 66)).heap[w6.heap.size + 1]? = some (.cells #[.int .i64 t, .int .i64 q, .slice a6 y.length c6] 66) := by
        have e : (w6.alloc (.cells #[.int .i64 t, .int .i64 q, .slice a6 y.length c6] 66)).heap.size = w6.heap.size + 1 := by simp
        rw [← e]; exact heap_alloc_new _ _
      have HV7 := Lib.hid (box3 (w6.heap.size + 1) (⟨t, q, y⟩, .slice a6 y.length c6) rfl hx7)
      clear hx7 hR6 hO6 hL6 hX6 hal6 hal7 hrow6
      go_wp2_with (at_builtin; go_loud (refine wpList_appF el23 Try.underlying23 HO7.out.row HV7.out hbel7 rfl _ _ rfl rfl rfl ?c3 ?cB ?c5 ?_))
      case c3 => have := Hacc.out; omega
      case cB => exact Nat.le_refl _
      case c5 => first | exact hbel7.size | exact Nat.le_succ_of_le hbel6.size
      intro v8 w8 hown8 hbel8 hk8 hn8
      have HO8 := Lib.hid (HO7.out.push (x := (⟨t, q, y⟩, .slice a6 y.length c6)) hown8 hk8 (by simpa using hn8))
      have HL8 := Lib.hid (HL7.out.push (r := ⟨t, q, y⟩) (O' := v8.ownBlock.toList) HX7.out hk8 (by simpa using hn8))
      obtain ⟨a8, c8, rfl⟩ := own_slice hown8
      clear hown8 hk8 hn8
      go_wp2
      go_roundw
      case rel => exact ⟨k + 1, s3, _, hlt, by go_num, by have := Hacc.out; simp; omega, by rw [List.map_append]; exact Hd2.out, HO8.out, HL8.out, hbel8⟩
      case measure => simp [intOf]; omega
    · obtain rfl : k = n := by omega
      have hfin := Hdk.out
      rw [Nat.sub_self] at hfin
      have hfin : decRN b k s0 [] = (acc.map (·.1), s) := hfin.symm
      rw [hfin] at Hdec
      have HS := Lib.hid (Recs.of_own HO.out.row HL.out)
      clear hfin
      go_wp2_with fail
      refine (rend_any g rv b s.1 s.2 _ HO.out.rd hbl6).mono ?_
      rintro e w3 ⟨rfl, hb3⟩
      have hbel3 := hbel.trans (hb3.mono hsz)
      have HS3 := Lib.hid (HS.out.below hb3)
      clear hb3
      rw [show ((s.1, s.2) : Nat × Bool) = s from rfl]
      rcases rEnd_cases b s with hre | hre
      · rw [hre] at Hdec ⊢
        have Hd : Hid (decR b = (acc.map (·.1), 0)) := Lib.hid (by rw [Hdec.out]; rfl)
        go_wp2
        go_ret2
        rw [Hd.out]
        exact ⟨_, acc, rfl, HS3.out, rfl, hbel3⟩
      · rw [hre] at Hdec ⊢
        have Hd : Hid (decR b = ([], 4)) := Lib.hid (by rw [Hdec.out]; rfl)
        go_wp2
        go_ret2
        rw [Hd.out]
        exact ⟨_, [], rfl, ⟨Raw.empty _ _ _, fun p hp => by cases hp⟩, rfl, hbel3⟩
end Go.Proofs.Yteefimjgcabpoaa
