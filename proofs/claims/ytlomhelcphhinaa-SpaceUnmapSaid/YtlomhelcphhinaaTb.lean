/- Space: Unmap -/
import Derived.Test.YtlomhelcphhinaaTa
namespace Go.Sp
open Go Go.RowKit Go.Bs Go.Cl
/-- the address space without a page, and the error -/
def unmapE (l : List Ent) (page : Int) : List Ent × Int := if validB l then (if (look l page).isSome then (wo l page, 0) else ([], 8)) else ([], 1)
theorem ent_mem' {l : List Ent} {k : Nat} (h : k < l.length) : ent l k ∈ l := List.mem_of_getElem? (ent_get h)
theorem del_wo {l : List Ent} (hs : Srt l) {i : Nat} (hi : i < l.length) {page : Int} (he : (ent l i).p = page) : l.take i ++ l.drop (i + 1) = wo l page := by
  have e : l = l.take i ++ ent l i :: l.drop (i + 1) := by
    conv => lhs; rw [← List.take_append_drop i l]
    rw [List.drop_eq_getElem_cons hi]; congr 2; simp [ent, hi]
  have h1 : ∀ z ∈ l.take i, (z.p != page) = true := fun z hz => by
    obtain ⟨j, hj, rfl⟩ := List.mem_iff_getElem.1 hz
    have hj' : j < i := by simp at hj; omega
    have := srt_at hs hj' hi
    have e1 : (l.take i)[j] = ent l j := by simp [ent, show j < l.length by omega]
    rw [e1]; simp; omega
  have h2 : ∀ z ∈ l.drop (i + 1), (z.p != page) = true := fun z hz => by
    obtain ⟨j, hj, rfl⟩ := List.mem_iff_getElem.1 hz
    have hj' : i + 1 + j < l.length := by simp at hj; omega
    have := srt_at hs (show i < i + 1 + j by omega) hj'
    have e1 : (l.drop (i + 1))[j] = ent l (i + 1 + j) := by simp [ent, hj']
    rw [e1]; simp; omega
  unfold wo
  conv => rhs; rw [e]
  rw [List.filter_append, List.filter_eq_self.2 h1, List.filter_cons, if_neg (by simp [he]), List.filter_eq_self.2 h2]
theorem look_iff {l : List Ent} (hs : Srt l) {p : Int} {z : Ent} : look l p = some z ↔ z ∈ l ∧ z.p = p := by
  unfold look
  constructor
  · intro h
    exact ⟨List.mem_of_find?_eq_some h, by simpa using List.find?_some h⟩
  · rintro ⟨hm, hz⟩
    cases hf : l.find? (fun x => x.p == p) with
    | none => have := List.find?_eq_none.1 hf z hm; simp [hz] at this
    | some y =>
      have h1 := List.mem_of_find?_eq_some hf
      have h2 : y.p = p := by simpa using List.find?_some hf
      rw [srt_uniq hs h1 hm (by rw [h2, hz])]
theorem look_ext {a b : List Ent} (ha : Srt a) (hb : Srt b) {p : Int} (h : ∀ z : Ent, z.p = p → (z ∈ a ↔ z ∈ b)) : look a p = look b p := by
  apply Option.ext
  intro z
  rw [look_iff ha, look_iff hb]
  exact ⟨fun ⟨h1, h2⟩ => ⟨(h z h2).1 h1, h2⟩, fun ⟨h1, h2⟩ => ⟨(h z h2).2 h1, h2⟩⟩
theorem wo_srt {l : List Ent} (h : Srt l) (p : Int) : Srt (wo l p) := srt_filter h _
theorem wo_mem {l : List Ent} {p : Int} {z : Ent} : z ∈ wo l p ↔ z ∈ l ∧ z.p ≠ p := by simp [wo]
theorem wo_valid {l : List Ent} (h : validB l = true) (p : Int) : validB (wo l p) = true := valid_of (wo_srt (valid_srt h) p) fun x hx => valid_ok h x (wo_mem.1 hx).1
theorem look_ins {l : List Ent} (h : validB l = true) {x : Ent} : look (insE l x) x.p = some x := (look_iff (ins_srt (valid_srt h) x)).2 ⟨ins_mem.2 (.inl rfl), rfl⟩
theorem look_ins_other {l : List Ent} (h : validB l = true) {x : Ent} {q : Int} (hq : q ≠ x.p) : look (insE l x) q = look l q :=
  look_ext (ins_srt (valid_srt h) x) (valid_srt h) fun z hz => by
    rw [ins_mem]
    constructor
    · rintro (rfl | ⟨h1, _⟩)
      · exact absurd hz.symm hq
      · exact h1
    · exact fun hm => .inr ⟨hm, by rw [hz]; exact hq⟩
theorem look_wo {l : List Ent} (p : Int) : look (wo l p) p = none := by
  unfold look
  rw [List.find?_eq_none]
  intro z hz; have := (wo_mem.1 hz).2; simpa using this
theorem look_wo_other {l : List Ent} (h : validB l = true) {p q : Int} (hq : q ≠ p) : look (wo l p) q = look l q :=
  look_ext (wo_srt (valid_srt h) p) (valid_srt h) fun z hz => by
    rw [wo_mem]; exact ⟨fun h => h.1, fun hm => ⟨hm, by rw [hz]; exact hq⟩⟩
/-- what SpaceEntries says, in plain terms -/
theorem entries {l : List Ent} {x : Ent} (h : validB l = true) (hx : x.ok = true) :
    unmapE (insE l x) x.p = (wo (insE l x) x.p, 0) ∧ tlate (insE l x) x.p x.wr = (x.f, 0) ∧ tlate (insE l x) x.p true = (if x.wr then (x.f, 0) else (0, 11)) ∧ tlate (wo (insE l x) x.p) x.p false = (0, 11) ∧
      validB (insE l x) = true ∧ validB (wo (insE l x) x.p) = true ∧ ∀ q wr, q ≠ x.p → tlate (insE l x) q wr = tlate l q wr ∧ tlate (wo (insE l x) x.p) q wr = tlate l q wr := by
  have hv := ins_valid h hx
  have hw := wo_valid hv x.p
  refine ⟨?_, ?_, ?_, ?_, hv, hw, fun q wr hq => ⟨?_, ?_⟩⟩
  · unfold unmapE; rw [hv, look_ins h]; rfl
  · unfold tlate; rw [hv, look_ins h]; cases hw : x.wr <;> simp [hw]
  · unfold tlate; rw [hv, look_ins h]; cases hw : x.wr <;> simp [hw]
  · unfold tlate; rw [hw, look_wo]; rfl
  · unfold tlate; rw [hv, h, look_ins_other h hq]
  · unfold tlate; rw [hw, h, look_wo_other hv hq, look_ins_other h hq]
end Go.Sp
namespace Go.Proofs.Ytlomhelcphhinaa
open Go.RowKit Go.Bs Go.Sp Go.Cl Go.Rw
set_option maxRecDepth 100000 in
set_option maxHeartbeats 1000000 in
theorem unmap_sl (v : Value) (l : List Ent) (page : Int) (w : World) (hl : l.length ≤ 1000) (hs : SlE w v l)
    (hp1 : -9223372036854775808 ≤ page) (hp2 : page ≤ 9223372036854775807) :
    Calls Try.prog 24 #[v, .int .i64 page] w (RetE (unmapE l page) w) := by
  have Hs := Lib.hid hs; clear hs
  have hl6 : l.length ≤ 1000000 := by omega
  cases hv : validB l
  · have hm : unmapE l page = ([], 1) := by unfold unmapE; rw [hv]; rfl
    rw [hm]; clear hm
    have Hv := Lib.hid hv; clear hv
    go_enter Try.func24, Try.ntmps24
    go_wp2_with fail
    refine (valid_eq Hs.out hl6 Hv.out).mono ?_
    rintro e w1 ⟨rfl, hb1⟩
    go_wp2
    go_ret2
    exact RetE.nil hb1
  · have Hv := Lib.hid hv
    go_enter Try.func24, Try.ntmps24
    go_wp2_with fail
    refine (valid_eq Hs.out hl6 Hv.out).mono ?_
    rintro e w1 ⟨rfl, hb1⟩
    have hw1 := hb1.size
    go_wp2_with fail
    refine (find_sl _ l page _ hl6 (Hs.out.below hb1) Hv.out hp1 hp2).mono ?_
    rintro e w2 ⟨i, fd, rfl, hfd, hb2⟩
    have hbel2 := hb1.trans (hb2.mono hw1)
    have Hs2 := Lib.hid (Hs.out.below hbel2)
    have hw2 := hbel2.size
    clear hb1 hb2
    cases fd
    · have hm : unmapE l page = ([], 8) := by unfold unmapE; rw [hv, hfd.look_no]; rfl
      have Hm := Lib.hid hm; clear hm hv hfd
      go_wp2
      go_ret2
      rw [Hm.out]
      exact RetE.nil hbel2
    · obtain ⟨hi, he⟩ := hfd.yes rfl
      have hm : unmapE l page = (wo l page, 0) := by unfold unmapE; rw [hv, hfd.look_yes hv]; rfl
      have hd := del_wo (valid_srt hv) hi he
      have Hm := Lib.hid hm; have Hd := Lib.hid hd
      clear hm hd hv hfd he
      obtain ⟨n, hn⟩ : ∃ n, l.length = n + 1 := ⟨l.length - 1, by omega⟩
      have hin : i ≤ n := by omega
      have hnl : n ≤ 1000000 := by omega
      have HN := Lib.hid hn; clear hn
      go_wp2_with fail
      refine (clone_sl _ l _ hl6 Hs2.out).mono ?_
      rintro e w3 ⟨v3, rfl, hown3, hb3⟩
      rw [HN.out] at hown3
      have hbel3 := hbel2.trans (hb3.mono hw2)
      rcases own_cases hown3 with ⟨_, h0, _⟩ | ⟨g, cap, rfl, hg, hgl, _⟩
      · omega
      have HO3 := Lib.hid hown3
      have hwg : w.heap.size ≤ g := Nat.le_trans hw2 hg
      clear hown3 hb3
      go_wp2_with fail
      refine (delete_own i w3 HN.out hin hnl HO3.out).mono ?_
      rintro e w4 ⟨rfl, hown4, hg4⟩
      have hbel4 := hbel3.grown hg4 hbel3.size (fun q hq => by simp at hq; omega)
      have HO4 := Lib.hid hown4
      clear hown4 hg4
      go_wp2
      go_ret2
      rw [Hm.out]
      have hl4 : (wo l page).length = n := by rw [← Hd.out, ← delE, delE_len HN.out hin]
      refine ⟨_, rfl, ?_, hbel4⟩
      have ho := own_base (base' := w.heap.size) HO4.out hw2
      rw [delE, Hd.out] at ho
      rw [hl4]; exact ho
end Go.Proofs.Ytlomhelcphhinaa
