/- names: an image decoded, what a law's walk calls: ask, the example -/
import Derived.Test.YtfgbkfifiioeiaaNi
import Derived.Lib.ConvBytes
namespace Go.Nm
open Go Go.RowKit Go.Bs Go.Cl Go.Rw Go.Wi
theorem rY_enc {s : List UInt8} {most : Int} (hm : (s.length : Int) ≤ most) (hs : s.length ≤ 1000000) {b p t : List UInt8} (hb : b = p ++ (encB s ++ t)) : rY b most (p.length, false) = (s, (p ++ encB s).length, false) := by
  have hf : Wi.fits (s.length : Int) := by unfold Wi.fits; omega
  have h := rB_enc hf (lo := 0) (hi := most) (by omega) (b := b) (p := p) (t := s ++ t) (by rw [hb]; simp [encB])
  cases hr : rdB b p.length 0 most with
  | none => unfold rB at h; simp [hr] at h
  | some q =>
    obtain ⟨x, m⟩ := q
    unfold rB at h
    simp only [hr, Bool.false_eq_true, if_false, Prod.mk.injEq, and_true] at h
    obtain ⟨rfl, hm2⟩ := h
    have hml : p.length + m = (p ++ encI (s.length : Int)).length := hm2
    have hbl : b.length = (p ++ encI (s.length : Int)).length + s.length + t.length := by rw [hb]; simp [encB]; omega
    have hfit : p.length + m + ((s.length : Int)).toNat ≤ b.length := by rw [Int.toNat_natCast]; omega
    unfold rY rdY
    rw [Int.toNat_natCast] at hfit
    simp only [hr, Int.toNat_natCast, if_pos hfit, Bool.false_eq_true, if_false, Prod.mk.injEq, and_true]
    constructor
    · rw [hml, hb, show p ++ (encB s ++ t) = (p ++ encI (s.length : Int)) ++ (s ++ t) by simp [encB]]
      rw [List.drop_take]
      simp
    · simp [encB]; simp at hml; omega
theorem decN_enc : ∀ (l' : List Nm) (p t : List UInt8) (acc : List Nm) (b : List UInt8), (∀ x ∈ l', x.s.length ≤ 14 ∧ Wi.fits x.t) → b = p ++ (l'.flatMap encX ++ t) → decN b l'.length (p.length, false) acc = (acc ++ l', (p ++ l'.flatMap encX).length, false)
  | [], p, t, acc, b, _, _ => by simp [decN]
  | x :: l', p, t, acc, b, hf, hb => by
    have hx := hf x (by simp)
    have h1 := rY_enc (s := x.s) (most := 14) (by omega) (by omega) (b := b) (p := p) (t := encI x.t ++ (l'.flatMap encX ++ t)) (by rw [hb]; simp [encX])
    have h2 := rI_enc (n := x.t) hx.2 (b := b) (p := p ++ encB x.s) (t := l'.flatMap encX ++ t) (by rw [hb]; simp [encX])
    rw [List.length_cons, decN_succ, h1]
    simp only
    rw [h2]
    simp only
    rw [decN_enc l' (p ++ encB x.s ++ encI x.t) t _ b (fun y hy => hf y (by simp [hy])) (by rw [hb]; simp [encX])]
    simp [encX]
theorem valid_short {l : List Nm} (h : validN l = true) : ∀ x ∈ l, x.s.length ≤ 14 ∧ Wi.fits x.t := fun x hx => by
  have := valid_ok h x hx
  simp only [okE, nmOK, Bool.and_eq_true, decide_eq_true_eq] at this
  unfold Wi.fits
  omega
theorem decL_enc {l : List Nm} (hv : validN l = true) : decL (encV l) = (l, 0) := by
  have hl := validN_len hv
  have hfl : Wi.fits (l.length : Int) := by unfold Wi.fits; omega
  have h0 := rB_enc (n := (l.length : Int)) (lo := 0) (hi := 40) hfl (by omega) (b := encV l) (p := []) (t := l.flatMap encX) rfl
  simp only [List.length_nil, List.nil_append] at h0
  have hdn := decN_enc l (encI l.length) [] [] (encV l) (valid_short hv) (by simp [encV])
  rw [List.nil_append, show encI (l.length : Int) ++ l.flatMap encX = encV l from rfl] at hdn
  unfold decL
  simp only [h0, Int.toNat_natCast, hdn, hv]
  simp [rEnd]
theorem encV_short {l : List Nm} (hv : validN l = true) : (encV l).length ≤ 24000 := by
  have hl := validN_len hv
  have h1 := encFlat_len (valid_fits hv)
  have h2 := encI_len (n := (l.length : Int)) (by unfold Wi.fits; omega)
  unfold encV
  rw [List.length_append]; omega
theorem step_call {X : List Nm} (hv : validN X = true) {from' op : Int} (h1 : 1 ≤ from' ∧ from' ≤ 10 ∧ from' ≠ 2) (h2 : 0 ≤ op ∧ op ≤ 2) {d : List UInt8} (hd : d.length ≤ 128) : stepB (encV X) from' 2 26 op 0 0 0 d = .ok ((doN X op d from').1, ⟨27, (doN X op d from').2.2, (doN X op d from').2.1, 0, 0⟩) := by
  unfold stepB stepN
  rw [decL_enc hv]
  have hn : ¬ pingOK from' 26 0 0 0 d.length := fun h => by have := h.1; omega
  have hc : callOK from' 26 op 0 0 0 d.length := ⟨rfl, h1, ⟨rfl, rfl, rfl⟩, h2, hd⟩
  simp [hn, hc]
/-- what ask returns -/
def RetAsk (r : List Nm × Int × Int) (w : World) (e : Ending) (w' : World) : Prop := ∃ v, e = .returned (.tuple #[v, .int .i64 r.2.2, .int .i64 r.2.1, .bool true]) ∧ BRow 5 w' w.heap.size v (encV r.1) ∧ Below w.heap.size w w'
end Go.Nm
namespace Go.Proofs.Ytfgbkfifiioeiaa
open Go.RowKit Go.Bs Go.Cl Go.Rw Go.Nm Go.Wi
theorem conv_any (l : List UInt8) (hl : l.length ≤ 1000000) : ∃ (C : World → World) (cp : World → Nat), (∀ w, (convert 9 23 (.string (strOf l))).run Try.prog w = .ok (.slice (some ⟨w.heap.size, 0, none⟩) l.length (cp w)) (C w)) ∧
    (∀ w, Bytes [] (C w) (.slice (some ⟨w.heap.size, 0, none⟩) l.length (cp w)) l) ∧ (∀ w, Below w.heap.size w (C w)) := by
  have hs : (strOf l).size = l.length := by simp [strOf, ByteArray.size]
  have hd : (strOf l).data.toList = l := by simp [strOf]
  refine ⟨fun w => Lib.bytesWorld w 5 (strOf l), fun w => grownCap w (strOf l).size 0 5, fun w => ?_, fun w => ?_, fun w => ?_⟩
  · rw [Lib.run_convert_string_bytes w 9 23 5 (strOf l) Try.underlying9 Try.underlying23 Try.underlying5, hs]
  · refine ⟨by simp [bytesV], bytesV_one _, _, _, rfl, by rw [← hs]; exact grownCap_ge _ _ _ _, grownCap_le_maxLen _ _ _ _ (by rw [hs]; unfold maxLen; omega), fun h0 => ⟨w.heap.size, 0, rfl, by rw [Lib.bytesWorld_size]; omega, by simp, fun j u hj => ?_⟩⟩
    have hjl : j < l.length := by
      have := (List.getElem?_eq_some_iff.1 hj).1; simpa [bytesV] using this
    rw [Nat.zero_add, Lib.bytesWorld_cell w 5 (strOf l) j (by rw [hs]; exact hjl), hd]
    have : (bytesV l)[j]? = some (.int .u8 (l.getD j 0).toNat) := by
      unfold bytesV
      rw [List.getElem?_map, List.getElem?_eq_getElem hjl]
      simp [byteV, List.getD, hjl]
    rw [this] at hj
    exact hj
  · refine ⟨rfl, ?_, rfl, by rw [Lib.bytesWorld_size]; omega, fun k hk => Lib.bytesWorld_at_old w 5 (strOf l) k hk⟩
    rfl
set_option maxRecDepth 100000 in
set_option maxHeartbeats 1000000 in
theorem own_any (v : Value) (l : List Nm) (w : World) (hl : l.length ≤ 1000000) (h : SlN w v l) :
    Calls Try.prog 12 #[v] w fun e w' => ∃ v', e = .returned v' ∧ SlN w' v' l ∧ Below w.heap.size w w' := by
  obtain ⟨a, cap, rfl⟩ := Raw.slice h
  have H := Lib.hid h; clear h
  go_enter Try.func12, Try.ntmps12
  go_wp2
  go_loopw [3, 7] (fun ov i wr => ∃ k : Nat, k ≤ l.length ∧ i = .int .i64 k ∧ wr.ownsRow w.heap.size 59 2 ov (l.take k).length ((l.take k).flatMap encN) ∧ Below w.heap.size w wr) (fun _ i _ => l.length - (intOf i).toNat)
  case atStart => exact ⟨0, Nat.zero_le _, rfl, World.ownsRow_nil _ _ _ _, Below.refl _ _⟩
  case round =>
    obtain ⟨k, hk, rfl, hown, hbel⟩ := hrel
    have hsz := hbel.size
    have htl : (l.take k).length ≤ l.length := by simp; omega
    by_cases hlt : k < l.length
    · obtain ⟨b, off, rfl, hb, h0, h1⟩ := (H.out.below hbel).elem hlt
      have Htk := Lib.hid (show l.take (k + 1) = l.take k ++ [nmAt l k] by rw [List.take_add_one, nm_get hlt]; rfl)
      obtain ⟨z, hz⟩ : ∃ z, nmAt l k = z := ⟨_, rfl⟩
      rw [hz] at h0 h1
      have Hz := Lib.hid hz; clear hz
      have Hown := Lib.hid hown; clear hown
      have hbel1 := hbel.alloc hsz (.cells #[.string (strOf z.s), .int .i64 z.t] 59)
      have Hx := Lib.hid (boxN wr.heap.size z (heap_alloc_new wr (.cells #[.string (strOf z.s), .int .i64 z.t] 59)))
      go_wp2_with (at_builtin; refine wpList_app el28 Try.underlying28 (Hown.out.alloc _) Hx.out hbel1 rfl _ _ rfl rfl rfl ?c3 (Nat.le_refl _) ?c5 ?_)
      case c3 => omega
      case c5 => first | omega | (simp; omega)
      intro v2 w2 hown2 hb2 hg2 hs2
      have Hfin : Hid (w2.ownsRow w.heap.size 59 2 v2 (l.take (k + 1)).length ((l.take (k + 1)).flatMap encN)) := Lib.hid (by
        rw [Htk.out, Hz.out]
        have hmin : min k l.length = k := by omega
        have := hown2
        rw [List.flatMap_append, List.length_append]
        simpa [hmin] using this)
      clear hown2 hg2
      go_wp2
      go_roundw
      case rel => exact ⟨k + 1, by omega, by go_num, Hfin.out, hb2⟩
      case measure => simp [intOf]; omega
    · obtain rfl : k = l.length := by omega
      rw [List.take_length] at hown
      have Hfin := Lib.hid (SlN.of_own hown); clear hown
      go_wp2
      go_ret
      exact ⟨_, rfl, Hfin.out, hbel⟩
def _root_.Go.Nm.few (l : List Nm) : Bool := l.all (fun x => decide (x.s.length ≤ 40)) && decide (l.length ≤ 50)
set_option maxRecDepth 100000 in
set_option maxHeartbeats 1000000 in
theorem few_any (v : Value) (l : List Nm) (w : World) (h : SlN w v l) :
    Calls Try.prog 10 #[v] w fun e w' => e = .returned (.bool (few l)) ∧ w = w' := by
  obtain ⟨a, cap, rfl⟩ := Raw.slice h
  have hml : l.length ≤ maxLen := by obtain ⟨_, _, _, _, e, q1, q2, _⟩ := h; cases e; omega
  have hml2 : (l.length : Int) ≤ 9223372036854775807 := by unfold maxLen at hml; omega
  have H := Lib.hid h; clear h hml
  go_enter Try.func10, Try.ntmps10
  go_wp2
  go_loopw [3] (fun i wr => ∃ k : Nat, k ≤ l.length ∧ i = .int .i64 k ∧ w = wr ∧ ∀ j, j < k → (nmAt l j).s.length ≤ 40) (fun i _ => l.length - (intOf i).toNat)
  case atStart => exact ⟨0, Nat.zero_le _, rfl, rfl, fun j hj => absurd hj (Nat.not_lt_zero _)⟩
  case round =>
    obtain ⟨k, hk, rfl, rfl, hok⟩ := hrel
    have Hok := Lib.hid hok; clear hok
    by_cases hlt : k < l.length
    · obtain ⟨b, off, rfl, hb, h0, h1⟩ := H.out.elem hlt
      obtain ⟨z, hz⟩ : ∃ z, nmAt l k = z := ⟨_, rfl⟩
      rw [hz] at h0 h1
      have Hz := Lib.hid hz; clear hz
      have hzs : (strOf z.s).size = z.s.length := strOf_size _
      by_cases hn : z.s.length ≤ 40
      · have g1 : ¬ (40 : Int) < ((strOf z.s).size : Int) := by omega
        have Hn := Lib.hid hn
        clear hn hzs
        go_wp2
        go_roundw
        case rel =>
          refine ⟨k + 1, by omega, by go_num, by first | rfl | trivial, fun j hj => ?_⟩
          by_cases hjk : j < k
          · exact Hok.out j hjk
          · obtain rfl : j = k := by omega
            rw [Hz.out]; exact Hn.out
        case measure => simp [intOf]; omega
      · have g1 : (40 : Int) < ((strOf z.s).size : Int) := by omega
        have HF : Hid (few l = false) := Lib.hid (by
          unfold few
          rw [show l.all (fun x => decide (x.s.length ≤ 40)) = false from List.all_eq_false.2 ⟨z, nm_mem.2 ⟨k, hlt, Hz.out⟩, by simpa using hn⟩]
          rfl)
        clear hn hzs
        go_wp2
        go_ret
        exact ⟨ret_bool HF.out.symm, by first | rfl | trivial⟩
    · obtain rfl : k = l.length := by omega
      have HF : Hid (few l = decide (l.length ≤ 50)) := Lib.hid (by
        unfold few
        rw [List.all_eq_true.2 (fun x hx => by obtain ⟨j, hj, rfl⟩ := nm_mem.1 hx; simpa using Hok.out j hj), Bool.true_and])
      go_wp2
      go_ret
      exact ⟨ret_bool (by rw [HF.out, Bool.eq_iff_iff, decide_eq_true_eq, decide_eq_true_eq]; omega), by first | rfl | trivial⟩
theorem results_tmp4 {fn : Func} {t u v x : Tmp} (h : fn.results = #[.tmp t, .tmp u, .tmp v, .tmp x]) (tmps : Array Value) (P : Program) (w : World) :
    (results fn tmps).run P w = .ok (.tuple #[tmps.getD t undef, tmps.getD u undef, tmps.getD v undef, tmps.getD x undef]) w := by
  simp [results, h]
abbrev _root_.Go.Nm.filesN : List UInt8 := [102, 105, 108, 101, 115]
set_option maxRecDepth 100000 in
set_option maxHeartbeats 4000000 in
theorem ask_any (iv : Value) (X : List Nm) («from» op : Int) (s : List UInt8) (w : World) (hv : validN X = true) (h1 : 1 ≤ «from» ∧ «from» ≤ 10 ∧ «from» ≠ 2) (h2 : 0 ≤ op ∧ op ≤ 2) (hs : s.length ≤ 100) (hI : Bytes [] w iv (encV X)) :
    Calls Try.prog 22 #[iv, .int .i64 «from», .int .i64 op, .string (strOf s)] w (RetAsk (doN X op s «from») w) := by
  obtain ⟨ia, ic, rfl⟩ := Raw.slice hI
  have hst := step_call hv h1 h2 (d := s) (by omega)
  obtain ⟨Dl, hDl⟩ : ∃ D, doN X op s «from» = D := ⟨_, rfl⟩
  rw [hDl] at hst ⊢
  obtain ⟨D1, D2, D3⟩ := Dl
  simp only at hst
  have hel := encV_short hv
  obtain ⟨b, hb⟩ : ∃ b, encV X = b := ⟨_, rfl⟩
  rw [hb] at hst hel hI ⊢
  have HST := Lib.hid hst
  have HI := Lib.hid hI
  have hbl : b.length ≤ 1000000 := by omega
  have efrom : («from» == «from») = true := by simp
  clear hst hI hel hDl hb h1 h2 hv
  obtain ⟨CW, cp, hcv, hcb, hcl⟩ := conv_any s (by omega)
  have HCB := Lib.hid (hcb w); have HCL := Lib.hid (hcl w)
  have hcvw := hcv w
  clear hcb hcl hcv
  go_enter Try.func22, Try.ntmps22
  go_wp2_with fail
  refine (step_any _ b «from» 2 26 0 op 0 0 0 _ _ s _ (Raw.below HI.out HCL.out) hbl HCB.out).mono ?_
  rw [HST.out]
  rintro e w2 ⟨v2, E, rfl, hrow, hE, hEw, hb2⟩
  have hbel2 := HCL.out.trans (hb2.mono HCL.out.size)
  have HROW := Lib.hid (own_base hrow HCL.out.size)
  obtain ⟨ea, ec, rfl⟩ := own_slice hrow
  have HEE : Hid (w2.heap[E]? = some (.cells #[.int .i64 1, .int .i64 0, .int .i64 0, .int .i64 0, .int .i64 0, .int .i64 0, .int .i64 «from», .int .i64 27, .int .i64 0, .int .i64 D3, .int .i64 D2, .int .i64 0, .int .i64 0, .slice none 0 0, .slice none 0 0] 78 (0, 0))) := Lib.hid hE
  clear hrow hE hb2 hcvw
  have e_0 : w2.cell? ⟨E, 0, none⟩ = some (.int .i64 1) := box_at HEE.out rfl
  have e_1 : w2.cell? ⟨E, 1, none⟩ = some (.int .i64 0) := box_at HEE.out rfl
  have e_2 : w2.cell? ⟨E, 2, none⟩ = some (.int .i64 0) := box_at HEE.out rfl
  have e_3 : w2.cell? ⟨E, 3, none⟩ = some (.int .i64 0) := box_at HEE.out rfl
  have e_4 : w2.cell? ⟨E, 4, none⟩ = some (.int .i64 0) := box_at HEE.out rfl
  have e_5 : w2.cell? ⟨E, 5, none⟩ = some (.int .i64 0) := box_at HEE.out rfl
  have e_6 : w2.cell? ⟨E, 6, none⟩ = some (.int .i64 «from») := box_at HEE.out rfl
  have e_7 : w2.cell? ⟨E, 7, none⟩ = some (.int .i64 27) := box_at HEE.out rfl
  have e_8 : w2.cell? ⟨E, 8, none⟩ = some (.int .i64 0) := box_at HEE.out rfl
  have e_9 : w2.cell? ⟨E, 9, none⟩ = some (.int .i64 D3) := box_at HEE.out rfl
  have e_10 : w2.cell? ⟨E, 10, none⟩ = some (.int .i64 D2) := box_at HEE.out rfl
  have e_11 : w2.cell? ⟨E, 11, none⟩ = some (.int .i64 0) := box_at HEE.out rfl
  have e_12 : w2.cell? ⟨E, 12, none⟩ = some (.int .i64 0) := box_at HEE.out rfl
  have e_13 : w2.cell? ⟨E, 13, none⟩ = some (.slice none 0 0) := box_at HEE.out rfl
  have e_14 : w2.cell? ⟨E, 14, none⟩ = some (.slice none 0 0) := box_at HEE.out rfl
  go_wp2
  refine Txt.wp_txt (by kernel_rfl) (by kernel_rfl) ?_
  go_wp2
  refine Txt.DrawPost.mk0 (by rfl) ?_
  go_wp2
  (try simp only [Exit.inBlock, Exit.then])
  refine bodyPost_ret (results_tmp4 rfl _ _ _) rfl ?_
  exact ⟨_, rfl, HROW.out, hbel2.drew⟩
set_option maxHeartbeats 4000000 in
theorem awake_any (w : World) : Calls Try.prog 9 #[] w fun e w' => e = .returned (.bool true) ∧ Below w.heap.size w w' := by
  have v0 : validN [] = true := rfl
  have hfs : nmOK filesN = true := by decide
  have d1 : doN [] 1 filesN 5 = ([⟨filesN, 5⟩], 5, 0) := by rfl
  have v1 : validN [⟨filesN, 5⟩] = true := by decide
  have d2 : doN [⟨filesN, 5⟩] 0 filesN 9 = ([⟨filesN, 5⟩], 5, 0) := by rfl
  have d3 : doN [⟨filesN, 5⟩] 1 filesN 6 = ([⟨filesN, 5⟩], 0, 9) := by rfl
  have D1 := Lib.hid d1; have D2 := Lib.hid d2; have D3 := Lib.hid d3
  have V0 := Lib.hid v0; have V1 := Lib.hid v1
  clear d1 d2 d3 v0 v1 hfs
  go_enter Try.func9, Try.ntmps9
  go_wp2_with fail
  have hnew : Calls Try.prog 21 #[] w fun e w' => e = .returned (.slice none 0 0) ∧ w = w' := by
    go_enter Try.func21, Try.ntmps21
    go_wp2
    go_ret
    exact ⟨rfl, rfl⟩
  refine hnew.mono ?_
  rintro e w' ⟨rfl, rfl⟩
  clear hnew
  go_wp2_with fail
  refine (encode_any _ [] _ (by simp) (Raw.empty _ _ _) (fun x hx => by cases hx)).mono ?_
  rintro e w1 ⟨v1, rfl, hr1, hb1⟩
  have HB1 := Lib.hid (BRow.bytes (F := []) hr1 (fun f hf => by cases hf))
  clear hr1
  go_wp2_with fail
  rw [show (ByteArray.mk #[102, 105, 108, 101, 115]) = strOf filesN from rfl]
  refine (ask_any _ [] 5 1 filesN _ V0.out (by decide) (by decide) (by decide) HB1.out).mono ?_
  rw [D1.out]
  rintro e w2 ⟨v2, rfl, hr2, hb2⟩
  have hbel2 := hb1.trans (hb2.mono hb1.size)
  have HB2 := Lib.hid (BRow.bytes (F := []) hr2 (fun f hf => by cases hf))
  clear hr2 hb2 HB1
  go_wp2_with fail
  rw [show (ByteArray.mk #[102, 105, 108, 101, 115]) = strOf filesN from rfl]
  refine (ask_any _ _ 9 0 filesN _ V1.out (by decide) (by decide) (by decide) HB2.out).mono ?_
  rw [D2.out]
  rintro e w3 ⟨v3, rfl, hr3, hb3⟩
  have hbel3 := hbel2.trans (hb3.mono hbel2.size)
  have HB3 := Lib.hid (Raw.below HB2.out hb3)
  clear hr3 hb3 HB2
  go_wp2_with fail
  rw [show (ByteArray.mk #[102, 105, 108, 101, 115]) = strOf filesN from rfl]
  refine (ask_any _ _ 6 1 filesN _ V1.out (by decide) (by decide) (by decide) HB3.out).mono ?_
  rw [D3.out]
  rintro e w4 ⟨v4, rfl, hr4, hb4⟩
  have hbel4 := hbel3.trans (hb4.mono hbel3.size)
  clear hr4 hb4 HB3
  go_wp2
  go_ret
  exact ⟨rfl, hbel4⟩
end Go.Proofs.Ytfgbkfifiioeiaa
