/- UnitScript: the reference's unit: New -/
import Derived.Test.YtipiofgdjbogiaaGreatYf
import Derived.Deep.WholeRow
set_option maxRecDepth 100000
set_option maxHeartbeats 4000000
namespace Go.Proofs.YtipiofgdjbogiaaGreat
open Go.Txt Go.RowKit Go.Bs Go.Cl Go.Rw Go.Un Go.Im Go.Fa Go.Wi
theorem rnew31_any {F:List Nat} (t:Int) (bv:Value) (b:List UInt8) (w:World) (h1:1≤t) (h2:t≤10) (hb:b.length≤24000) (hF:∀f∈F,f<w.heap.size) (hB:Bytes F w bv b):
  Calls Tryz.prog 7 #[.int .i64 t,bv] w fun e w'=>∃v',e= .returned (.tuple #[v',.int .i64 0])∧RUV F w' v' ⟨t,[],1,1,1,2,2,false,0⟩ b 0∧Below w.heap.size w w':=by
 have HB:=Hj hB
 have HFF:=Hj hF
 clear hB hF
 obtain ⟨w1,hw1⟩:∃W,W=w.alloc (.cells #[.int .i64 0,.slice none 0 0,.slice none 0 0,.slice none 0 0,.int .i64 0,.bool false,.bool false,.slice none 0 0,.slice none 0 0,.int .i64 0,.int .i64 0,.int .i64 0,.int .i64 0,.int .i64 0,.bool false,.int .i64 0] 36):=⟨_,rfl⟩
 have z1:w1.heap.size=w.heap.size+1:=by rw[hw1];simp
 have b1:Below w.heap.size w w1:=by rw[hw1];exact (Br _ w).alloc (Nr _) _
 have n1:w1.heap[w.heap.size]? =some (.cells #[.int .i64 0,.slice none 0 0,.slice none 0 0,.slice none 0 0,.int .i64 0,.bool false,.bool false,.slice none 0 0,.slice none 0 0,.int .i64 0,.int .i64 0,.int .i64 0,.int .i64 0,.int .i64 0,.bool false,.int .i64 0] 36 (0,0)):=by rw[hw1];exact heap_alloc_new w _
 have t1:=b1
 have HR1:=Hj (n1)
 have HW1:=Hj hw1
 have bel1:=t1
 have hz1:=t1.size
 clear hw1 b1 n1 t1
 go_enter Tryz.func7,Tryz.ntmps7
 go_upto_region 1 with (fail)
 rw[←HW1.out]
 obtain ⟨R,hR⟩:∃A,A=w.heap.size:=⟨_,rfl⟩
 rw[←hR]
 rw[←hR] at HR1
 have qR:w.heap.size≤R:=by omega
 have lR:R<w1.heap.size:=by omega
 clear hR z1 HW1
 go_wp2_with fail
 refine (rnew_any (F:=R::F) _ b _ hb (fun f hf=>by rcases List.mem_cons.1 hf with rfl | hf;exact lR;have:=HFF.out f hf;omega) (Rb (Raw.fresh HB.out (fun f hf=>by rcases List.mem_cons.1 hf with rfl | hf;exact .inr qR;exact .inl hf)) bel1)).mono ?_
 rintro e w2 ⟨v2,rfl,hrv,hb2⟩
 obtain ⟨iv,wv,nv,tv,rfl,hiv,hwv,hnv,htv⟩:=hrv
 simp only[rfNew] at hiv hwv hnv htv⊢
 obtain ⟨ia,ic,rfl⟩:=Rs hiv
 obtain ⟨wa,wc,rfl⟩:=Rs hwv
 obtain ⟨na,nc,rfl⟩:=Rs hnv
 obtain ⟨ta,tc,rfl⟩:=htv.slice
 simp only[List.length_nil] at hnv htv⊢
 have HIV2:=Hj hiv;have HWV2:=Hj hwv;have HNV2:=Hj hnv;have HTV2:=Hj htv
 clear hiv hwv hnv htv
 have HR2:=Hj (Kb hb2 HR1.out)
 clear HR1
 have bel2:=bel1.trans (hb2.mono bel1.size)
 clear hb2
 go_upto_region 4 with (refine wpList_store_row rfl 32 _ _ rfl w2.heap.size #[.slice ia b.length ic,.slice wa b.length wc,.slice na 0 nc,.int .i64 0,.bool false,.bool false,.slice ta 0 tc] rfl rfl 32 #[.slice none 0 0,.slice none 0 0,.slice none 0 0,.int .i64 0,.bool false,.bool false,.slice none 0 0] (heap_alloc_new w2 _) (by kernel_rfl) rfl (by kernel_rfl) ?_)
 rw[World.setRow_alloc_new]
 obtain ⟨S,hS⟩:∃S,S=w2.heap.size:=⟨_,rfl⟩
 obtain ⟨w3,hw3⟩:∃W,W=w2.alloc (.cells #[.slice ia b.length ic,.slice wa b.length wc,.slice na 0 nc,.int .i64 0,.bool false,.bool false,.slice ta 0 tc] 32):=⟨_,rfl⟩
 rw[←hw3,←hS]
 have hb3:Below w2.heap.size w2 w3:=by rw[hw3];exact (Br _ _).alloc (Nr _) _
 have hxS:w3.heap[S]? =some (.cells #[.slice ia b.length ic,.slice wa b.length wc,.slice na 0 nc,.int .i64 0,.bool false,.bool false,.slice ta 0 tc] 32 (0,0)):=by rw[hw3,hS];exact heap_alloc_new w2 _
 have qS:w.heap.size≤S:=by have:=bel2.size;omega
 have dRS:R<S:=by have:=(Al HR2.out);omega
 clear hw3 hS
 have HR3:=Hj (Kb hb3 HR2.out)
 have HIV3:=Hj (Rb HIV2.out hb3)
 have HWV3:=Hj (Rb HWV2.out hb3)
 have HNV3:=Hj (Rb HNV2.out hb3)
 have HTV3:=Hj (ChR.below HTV2.out hb3)
 clear HR2 HIV2 HWV2 HNV2 HTV2
 have bel3:=bel2.trans (hb3.mono bel2.size)
 have HS3:=Hj hxS
 clear hxS hb3
 go_upto_region 6 with (fail)
 go_wp2_with (first | refine wpList_load_row rfl 32 _ rfl S rfl 32 #[.slice ia b.length ic,.slice wa b.length wc,.slice na 0 nc,.int .i64 0,.bool false,.bool false,.slice ta 0 tc] (0,0) _ HS3.out Tryz.underlying32 rfl (by kernel_rfl) ?_ | refine wpList_store_row rfl 36 _ _ rfl R #[.int .i64 t,.slice ia b.length ic,.slice wa b.length wc,.slice na 0 nc,.int .i64 0,.bool false,.bool false,.slice ta 0 tc,.slice none 0 0,.int .i64 1,.int .i64 1,.int .i64 1,.int .i64 2,.int .i64 2,.bool false,.int .i64 0] rfl rfl 36 #[.int .i64 0,.slice none 0 0,.slice none 0 0,.slice none 0 0,.int .i64 0,.bool false,.bool false,.slice none 0 0,.slice none 0 0,.int .i64 0,.int .i64 0,.int .i64 0,.int .i64 0,.int .i64 0,.bool false,.int .i64 0] HR3.out (by kernel_rfl) rfl (by kernel_rfl) ?_)
 obtain ⟨w4,hN⟩:∃X,X=w3.setRow R #[.int .i64 t,.slice ia b.length ic,.slice wa b.length wc,.slice na 0 nc,.int .i64 0,.bool false,.bool false,.slice ta 0 tc,.slice none 0 0,.int .i64 1,.int .i64 1,.int .i64 1,.int .i64 2,.int .i64 2,.bool false,.int .i64 0]:=⟨_,rfl⟩
 rw[←hN]
 have hNk:Keep [R] w3 w4:=by rw[hN];exact keep_setRow _ _ _
 have HR4:Hid (w4.heap[R]? =some (.cells #[.int .i64 t,.slice ia b.length ic,.slice wa b.length wc,.slice na 0 nc,.int .i64 0,.bool false,.bool false,.slice ta 0 tc,.slice none 0 0,.int .i64 1,.int .i64 1,.int .i64 1,.int .i64 2,.int .i64 2,.bool false,.int .i64 0] 36 (0,0))):=Hj (by rw[hN];exact setRow_heap _ _ _ _ _ _ HR3.out)
 have hNz:=hNk.size
 have HIV4:=Hj (Raw.keep (F':=R::F) HIV3.out hNk (fun f hf=>by rw[M1' hf];exact .inl (by simp)) (fun f hf=> .inl hf))
 have HWV4:=Hj (Raw.keep (F':=R::F) HWV3.out hNk (fun f hf=>by rw[M1' hf];exact .inl (by simp)) (fun f hf=> .inl hf))
 have HNV4:=Hj (Raw.keep (F':=R::F) HNV3.out hNk (fun f hf=>by rw[M1' hf];exact .inl (by simp)) (fun f hf=> .inl hf))
 have HTV4:=Hj (ChR.keep (F':=R::F) HTV3.out hNk (fun f hf=>by rw[M1' hf];exact .inl (by simp)) (fun f hf=> .inl hf))
 have HS4:=Hj ((hNk.block S (Al HS3.out) (by simp;omega)).trans HS3.out)
 clear hN HR3 HIV3 HWV3 HNV3 HTV3 HS3
 have bel4:Below w.heap.size w w4:=below_keep bel3 hNk (fun f hf=>by rw[M1' hf];exact qR)
 clear hNk
 have hsub:∀f∈F,f∈R::F∨w4.heap.size≤f:=fun f hf=> .inl (List.mem_cons_of_mem _ hf)
 refine bodyPost_ret (results_ct rfl _ _ _ _ _ _ _ rfl HR4.out Tryz.underlying36 rfl (by kernel_rfl)) rfl ?_
 exact ⟨_,rfl,⟨_,_,_,_,_,rfl,Raw.fresh HIV4.out hsub,Raw.fresh HWV4.out hsub,Raw.fresh HNV4.out hsub,HTV4.out.keep (Keep.refl [] _) (fun f hf=>by cases hf) hsub,Raw.empty _ _ _⟩,bel4⟩
end Go.Proofs.YtipiofgdjbogiaaGreat
