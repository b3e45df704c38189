/- UnitFailed, UnitNil: the law's functions -/
import Derived.Test.YtipiofgdjbogiaaGreatHf
set_option maxRecDepth 100000
set_option maxHeartbeats 4000000
namespace Go.Proofs.YtipiofgdjbogiaaGreat
open Go.Txt Go.RowKit Go.Bs Go.Cl Go.Rw Go.Un Go.Im Go.Fa
theorem message_any (n:Int) (w:World):Calls Tryz.prog 26 #[.int .i64 n] w fun e w'=>e= .returned (.agg #[.int .i64 16,.int .i64 6,.int .i64 6,.int .i64 n,.int .i64 0,.int .i64 0,.int .i64 0,.int .i64 0,.slice none 0 0])∧Below w.heap.size w w':=by
 obtain ⟨R,hR⟩:∃R,R=w.heap.size:=⟨_,rfl⟩
 obtain ⟨W,hW⟩:∃W,W=w.alloc (.cells #[.int .i64 0,.int .i64 0,.int .i64 0,.int .i64 0,.int .i64 0,.int .i64 0,.int .i64 0,.int .i64 0,.slice none 0 0] 44):=⟨_,rfl⟩
 have HW:=Hj hW
 have hb:Below w.heap.size w W:=by rw[hW];exact (Br _ w).alloc (Nr _) _
 have HBW:=Hj hb
 have HR:Hid (W.heap[R]? =some (.cells #[.int .i64 0,.int .i64 0,.int .i64 0,.int .i64 0,.int .i64 0,.int .i64 0,.int .i64 0,.int .i64 0,.slice none 0 0] 44 (0,0))):=Hj (by rw[hW,hR];exact heap_alloc_new w _)
 have hwR:w.heap.size≤R:=by omega
 clear hW hb
 go_enter Tryz.func26,Tryz.ntmps26
 go_upto_region 1 with (fail)
 rw[←HW.out,←hR]
 clear hR HW
 have r0:=Bj HR.out 0 rfl
 have f0:=Bf HR.out 0
 have r1:=Bj HR.out 1 rfl
 have f1:=Bf HR.out 1
 have r2:=Bj HR.out 2 rfl
 have f2:=Bf HR.out 2
 have r3:=Bj HR.out 3 rfl
 have f3:=Bf HR.out 3
 have r4:=Bj HR.out 4 rfl
 have f4:=Bf HR.out 4
 have r5:=Bj HR.out 5 rfl
 have f5:=Bf HR.out 5
 have r6:=Bj HR.out 6 rfl
 have f6:=Bf HR.out 6
 have r7:=Bj HR.out 7 rfl
 have f7:=Bf HR.out 7
 have r8:=Bj HR.out 8 rfl
 have f8:=Bf HR.out 8
 go_wp2
 clear r0 r1 r2 r3 r4 r5 r6 r7 r8 f0 f1 f2 f3 f4 f5 f6 f7 f8
 obtain ⟨XR,hN⟩:∃X,X=(((((((((W.setCell ⟨R,0,none⟩ (.int .i64 16)).setCell ⟨R,1,none⟩ (.int .i64 6)).setCell ⟨R,2,none⟩ (.int .i64 6)).setCell ⟨R,3,none⟩ (.int .i64 n)).setCell ⟨R,4,none⟩ (.int .i64 0)).setCell ⟨R,5,none⟩ (.int .i64 0)).setCell ⟨R,6,none⟩ (.int .i64 0)).setCell ⟨R,7,none⟩ (.int .i64 0)).setCell ⟨R,8,none⟩ (.slice none 0 0)):=⟨_,rfl⟩
 rw[←hN]
 obtain ⟨hNb,hNk⟩:=puts_at [(0,.int .i64 16),(1,.int .i64 6),(2,.int .i64 6),(3,.int .i64 n),(4,.int .i64 0),(5,.int .i64 0),(6,.int .i64 0),(7,.int .i64 0),(8,.slice none 0 0)] HR.out
 have hNe:puts W R [(0,.int .i64 16),(1,.int .i64 6),(2,.int .i64 6),(3,.int .i64 n),(4,.int .i64 0),(5,.int .i64 0),(6,.int .i64 0),(7,.int .i64 0),(8,.slice none 0 0)]=XR:=hN.symm
 have hNz:=puts_size [(0,.int .i64 16),(1,.int .i64 6),(2,.int .i64 6),(3,.int .i64 n),(4,.int .i64 0),(5,.int .i64 0),(6,.int .i64 0),(7,.int .i64 0),(8,.slice none 0 0)] W R
 rw[hNe] at hNb hNk hNz
 have HKr:=Hj hNk
 have HZr:=Hj hNz
 have hXR:XR.heap[R]? =some (.cells #[.int .i64 16,.int .i64 6,.int .i64 6,.int .i64 n,.int .i64 0,.int .i64 0,.int .i64 0,.int .i64 0,.slice none 0 0] 44 (0,0)):=hNb
 refine bodyPost_ret (results_c rfl _ _ _ _ _ _ _ rfl hXR Tryz.underlying44 rfl (by kernel_rfl)) rfl ?_
 exact ⟨rfl,HBW.out.trans (HKr.out.below HBW.out.size (G1 (by omega)))⟩
theorem few1_any (o:Oc) (iv ev:Value) (w:World) (hi:o.im.length≤1000000000000000) (he:o.ef.length≤1000000000000000) (hiv:∃a c,iv= .slice a o.im.length c) (hev:∃a c,ev= .slice a o.ef.length c):Calls Tryz.prog 29 #[.agg #[.int .i64 o.en,.int .i64 o.st,.int .i64 o.er,iv,ev]] w fun e w'=>e= .returned (.bool (decide (o.im.length+o.ef.length≤400)))∧Below w.heap.size w w':=by
 obtain ⟨ai,ac,rfl⟩:=hiv
 obtain ⟨ae,aec,rfl⟩:=hev
 go_enter Tryz.func29,Tryz.ntmps29
 go_wp2
 go_ret
 refine ⟨congrArg (fun b=>Ending.returned (Value.bool b)) (?_:decide ((o.im.length:Int)+o.ef.length≤400)=_),(Br _ w).alloc (Nr _) _⟩
 rw[decide_eq_decide]
 omega
theorem to_any (F:List Nat) (o:Oc) (iv ev:Value) (w:World) (hil:o.im.length≤1000000) (hel:o.ef.length≤1000000) (hI:Bytes F w iv o.im) (hE:Bytes F w ev o.ef):
  Calls Tryz.prog 16 #[.agg #[.int .i64 o.en,.int .i64 o.st,.int .i64 o.er,iv,ev]] w fun e w'=>∃iv' ev',e= .returned (.agg #[.int .i64 o.en,.int .i64 o.st,.int .i64 o.er,iv',ev'])∧w'.ownsRow w.heap.size 5 1 iv' o.im.length (bytesV o.im)∧w'.ownsRow w.heap.size 5 1 ev' o.ef.length (bytesV o.ef)∧Below w.heap.size w w':=by
 obtain ⟨ai,ac,rfl⟩:=Rs hI
 obtain ⟨ae,aec,rfl⟩:=Rs hE
 obtain ⟨W1,hW1⟩:∃W,W=w.alloc (.cells #[.int .i64 o.en,.int .i64 o.st,.int .i64 o.er,(.slice ai o.im.length ac),(.slice ae o.ef.length aec)] 46):=⟨_,rfl⟩
 obtain ⟨W,hW⟩:∃W,W=W1.alloc (.cells #[.int .i64 0,.int .i64 0,.int .i64 0,.slice none 0 0,.slice none 0 0] 61):=⟨_,rfl⟩
 have HW1:=Hj hW1;have HW:=Hj hW
 have z1:W1.heap.size=w.heap.size+1:=by rw[hW1];simp
 have z2:W.heap.size=w.heap.size+1+1:=by rw[hW];simp[z1]
 have hb:Below w.heap.size w W:=by rw[hW,hW1];exact ((Br _ w).alloc (Nr _) _).alloc (by simp) _
 have hb2:Below W1.heap.size W1 W:=by rw[hW];exact (Br _ _).alloc (Nr _) _
 have HO:Hid (W.heap[w.heap.size]? =some (.cells #[.int .i64 o.en,.int .i64 o.st,.int .i64 o.er,(.slice ai o.im.length ac),(.slice ae o.ef.length aec)] 46 (0,0))):=Hj ((hb2.block _ (by omega)).trans (by rw[hW1];exact heap_alloc_new w _))
 have HR:Hid (W.heap[w.heap.size+1]? =some (.cells #[.int .i64 0,.int .i64 0,.int .i64 0,.slice none 0 0,.slice none 0 0] 61 (0,0))):=Hj (by rw[hW,←z1];exact heap_alloc_new W1 _)
 have HBW:=Hj hb
 have HI:=Hj (Rb hI hb);have HE:=Hj (Rb hE hb)
 clear hW1 hW hb hb2 hI hE
 go_enter Tryz.func16,Tryz.ntmps16
 go_upto_region 1 with (fail)
 rw[←HW1.out,←HW.out]
 obtain ⟨O,hO⟩:∃O,O=w.heap.size:=⟨_,rfl⟩
 obtain ⟨R,hR⟩:∃R,R=w.heap.size+1:=⟨_,rfl⟩
 rw[←hR,←hO]
 rw[←hO] at HO;rw[←hR] at HR
 have hwO:w.heap.size≤O:=by omega
 have hOR:O<R:=by omega
 have hRW:R<W.heap.size:=by omega
 have hwW:w.heap.size≤W.heap.size:=by omega
 clear hO hR HW1 HW z1 z2
 have o_0:W.cell? ⟨O,0,none⟩=some (.int .i64 o.en):=Bo HO.out rfl
 have o_1:W.cell? ⟨O,1,none⟩=some (.int .i64 o.st):=Bo HO.out rfl
 have o_2:W.cell? ⟨O,2,none⟩=some (.int .i64 o.er):=Bo HO.out rfl
 have o_3:W.cell? ⟨O,3,none⟩=some (.slice ai o.im.length ac):=Bo HO.out rfl
 have o_4:W.cell? ⟨O,4,none⟩=some (.slice ae o.ef.length aec):=Bo HO.out rfl
 have hBl:∀z∈[O],∃c e f,W.heap[z]? =some (.cells c e f):=fun z hz=>by rw[M1' hz];exact ⟨_,_,_,HO.out⟩
 have HS0:=Hj (same_start hBl)
 refine Ty.wp_tree [O] [1,3,5,8,12] [15] [1,3,5,8,12] [0,1,2,3,4,5,7,8,11,12] (.alt [6] (.alt [9] (.alt [10] (.alt [13,14] (.alt [15] (.done) (.no)) (.no)) (.no)) (.alt [10] (.alt [9] (.alt [13,14] (.alt [15] (.done) (.no)) (.no)) (.no)) (.no))) (.alt [10] (.alt [6] (.alt [9] (.alt [13,14] (.alt [15] (.done) (.no)) (.no)) (.no)) (.no)) (.no))) (by kernel_rfl) (by kernel_rfl) (by kernel_rfl) (by kernel_rfl) hBl ?_
 try simp only[pick,Gs,Gz]
 go_wp2
 refine Rm ?_
 refine Wa ?_ (Wa ?_ Ty.wpTr_no)
 ·try simp only[pick,Gs,Gz]
  go_wp2
  obtain ⟨A,hA⟩:∃A,A=W.heap.size:=⟨_,rfl⟩
  obtain ⟨y1,hwn⟩:∃X,X=(W.alloc (.cells #[] 5)).drew:=⟨_,rfl⟩
  rw[←hwn,←hA]
  have hb1:Below W.heap.size W y1:=by rw[hwn];exact ((Br _ _).alloc (Nr _) _).drew
  have hz1:=hb1.size
  have hn1:y1.heap[A]? =some (.cells #[] 5 (0,0)):=by rw[hwn,hA];exact ((Br (W.alloc (.cells #[] 5)).heap.size _).drew.block _ (by simp)).trans (heap_alloc_new _ _)
  have hl1:A<y1.heap.size:=(Al hn1)
  have HL1:Hid (Below W.heap.size W y1):=Hj (hb1)
  have hq1:=HL1.out.size
  have HOA1:Hid (y1.ownsRow W.heap.size 5 1 (.slice (some ⟨A,0,none⟩) 0 0) 0 []):=Hj ⟨by simp,.inr ⟨_,0,#[],rfl,by omega,hn1,by omega,by unfold maxLen;omega,rfl,rfl⟩⟩
  have HS1:Hid (SameB [O] W.drew y1):=Hj (same_below' (same_start hBl) (show Below W.drew.heap.size W.drew y1 by rw[hwn];exact (Br W.drew.heap.size W.drew).alloc (Nr _) _))
  have hge1:W.heap.size≤A:=by omega
  clear hwn hn1 hb1 hA
  refine Sm (Ss HS1.out) ?_
  try simp only[pick,Gs,Gz]
  go_wp2
  refine Rm ?_
  refine Wa ?_ (Wa ?_ Ty.wpTr_no)
  ·try simp only[pick,Gs,Gz]
   have HX2:=Hj (Rb HI.out HL1.out)
   have hq2:=HL1.out.size
   go_wp2_with (at_builtin;refine wpList_appF el22 Tryz.underlying22 HOA1.out HX2.out HL1.out rfl _ _ rfl rfl rfl ?c3 (Nr _) ?c5 ?_)
   case c3=>omega
   case c5=>omega
   intro v2 y2 hown hb2 hk2 hf2
   obtain ⟨a2,c2,rfl⟩:=Oq hown
   obtain ⟨q2,hq2'⟩:∃n,n=o.im.length:=⟨_,rfl⟩
   have hz2:y1.heap.size≤y2.heap.size:=hk2.size
   have HOA2:Hid (y2.ownsRow W.heap.size 5 1 (.slice a2 o.im.length c2) o.im.length (bytesV o.im)):=Hj (by simpa using hown)
   have HL2:=Hj hb2
   have HS2:=Hj (same_keep HS1.out hk2 (fun z hz hm=>by rw[List.mem_singleton] at hz;subst hz;simp[Value.ownBlock] at hm;omega))
   have hltA:∀z,(Value.slice a2 o.im.length c2).ownBlock=some z→z<y2.heap.size:=fun z hz=>(HOA2.out.lt z hz).2
   clear hown hb2 hk2 hf2
   refine Sm (Ss HS2.out) ?_
   try simp only[pick,Gs,Gz]
   go_wp2
   refine Rm ?_
   refine Wq ?_
   try simp only[pick,Gs,Gz]
   go_wp2
   obtain ⟨B,hB⟩:∃A,A=y2.heap.size:=⟨_,rfl⟩
   obtain ⟨y3,hwn⟩:∃X,X=y2.alloc (.cells #[] 5):=⟨_,rfl⟩
   rw[←hwn,←hB]
   have hb3:Below y2.heap.size y2 y3:=by rw[hwn];exact (Br _ _).alloc (Nr _) _
   have hz3:=hb3.size
   have hn3:y3.heap[B]? =some (.cells #[] 5 (0,0)):=by rw[hwn,hB];exact heap_alloc_new _ _
   have hl3:B<y3.heap.size:=(Al hn3)
   have HL3:Hid (Below W.heap.size W y3):=Hj (HL2.out.trans (hb3.mono HL2.out.size))
   have hq3:=HL3.out.size
   have hqq3:=HL2.out.size
   have HOB3:Hid (y3.ownsRow W.heap.size 5 1 (.slice (some ⟨B,0,none⟩) 0 0) 0 []):=Hj ⟨by simp,.inr ⟨_,0,#[],rfl,by omega,hn3,by omega,by unfold maxLen;omega,rfl,rfl⟩⟩
   have HOA3:=Hj (own_below HOA2.out hb3 (Nr _))
   have HS3:=Hj (same_below' HS2.out hb3)
   have hneA:∀z,(Value.slice a2 o.im.length c2).ownBlock=some z→z≠B:=fun z hz e=>by have:=hltA z hz;omega
   have hge3:y2.heap.size≤B:=by omega
   clear hwn hn3 hb3 hB
   refine Sm (Ss HS3.out) ?_
   try simp only[pick,Gs,Gz]
   go_wp2
   refine Rm ?_
   refine Wq ?_
   try simp only[pick,Gs,Gz]
   have HX4:=Hj (Rb HE.out HL3.out)
   have hq4:=HL3.out.size
   go_wp2_with (at_builtin;refine wpList_appF el22 Tryz.underlying22 HOB3.out HX4.out HL3.out rfl _ _ rfl rfl rfl ?c3 (Nr _) ?c5 ?_)
   case c3=>omega
   case c5=>omega
   intro v4 y4 hown hb4 hk4 hf4
   obtain ⟨a4,c4,rfl⟩:=Oq hown
   obtain ⟨q4,hq4'⟩:∃n,n=o.ef.length:=⟨_,rfl⟩
   have hz4:y3.heap.size≤y4.heap.size:=hk4.size
   have HOB4:Hid (y4.ownsRow W.heap.size 5 1 (.slice a4 o.ef.length c4) o.ef.length (bytesV o.ef)):=Hj (by simpa using hown)
   have HL4:=Hj hb4
   have HS4:=Hj (same_keep HS3.out hk4 (fun z hz hm=>by rw[List.mem_singleton] at hz;subst hz;simp[Value.ownBlock] at hm;omega))
   have HOA4:=Hj (own_keep HOA3.out hk4 (fun z hz hm=>by simp only[Value.ownBlock,Option.toList,List.mem_singleton] at hm;exact hneA z hz hm))
   clear hown hb4 hk4 hf4
   have hq9:=HL4.out.size
   have HOb:=Hj ((HL4.out.block O (by omega)).trans HO.out)
   have HRb:=Hj ((HL4.out.block R hRW).trans HR.out)
   clear o_0 o_1 o_2 o_3 o_4
   have r0:=Bj HRb.out 0 rfl
   have f0:=Bf HRb.out 0
   have r1:=Bj HRb.out 1 rfl
   have f1:=Bf HRb.out 1
   have r2:=Bj HRb.out 2 rfl
   have f2:=Bf HRb.out 2
   have r3:=Bj HRb.out 3 rfl
   have f3:=Bf HRb.out 3
   have r4:=Bj HRb.out 4 rfl
   have f4:=Bf HRb.out 4
   have o_0:y4.cell? ⟨O,0,none⟩=some (.int .i64 o.en):=Bo HOb.out rfl
   have o_1:y4.cell? ⟨O,1,none⟩=some (.int .i64 o.st):=Bo HOb.out rfl
   have o_2:y4.cell? ⟨O,2,none⟩=some (.int .i64 o.er):=Bo HOb.out rfl
   have o_3:y4.cell? ⟨O,3,none⟩=some (.slice ai o.im.length ac):=Bo HOb.out rfl
   have o_4:y4.cell? ⟨O,4,none⟩=some (.slice ae o.ef.length aec):=Bo HOb.out rfl
   go_wp2
   refine Sm (Ss HS4.out) ?_
   try simp only[pick,Gs,Gz]
   go_wp2
   refine Rm ?_
   refine Wq ?_
   try simp only[pick,Gs,Gz]
   go_wp2
   refine Sm (Ty.Shown.last rfl) ?_
   try simp only[pick,Gs,Gz]
   go_wp2
   refine Rm ?_
   refine Wd (by rfl) ⟨.head _,.head _,.head _,.head _,.head _,trivial⟩ ?_
   clear r0 r1 r2 r3 r4 f0 f1 f2 f3 f4 o_0 o_1 o_2 o_3 o_4
   go_wp2
   obtain ⟨XR,hN⟩:∃X,X=(((((y4.setCell ⟨R,0,none⟩ (.int .i64 o.en)).setCell ⟨R,1,none⟩ (.int .i64 o.st)).setCell ⟨R,2,none⟩ (.int .i64 o.er)).setCell ⟨R,3,none⟩ (.slice a2 o.im.length c2)).setCell ⟨R,4,none⟩ (.slice a4 o.ef.length c4)):=⟨_,rfl⟩
   rw[←hN]
   obtain ⟨hNb,hNk⟩:=puts_at [(0,.int .i64 o.en),(1,.int .i64 o.st),(2,.int .i64 o.er),(3,.slice a2 o.im.length c2),(4,.slice a4 o.ef.length c4)] HRb.out
   have hNe:puts y4 R [(0,.int .i64 o.en),(1,.int .i64 o.st),(2,.int .i64 o.er),(3,.slice a2 o.im.length c2),(4,.slice a4 o.ef.length c4)]=XR:=hN.symm
   have hNz:=puts_size [(0,.int .i64 o.en),(1,.int .i64 o.st),(2,.int .i64 o.er),(3,.slice a2 o.im.length c2),(4,.slice a4 o.ef.length c4)] y4 R
   rw[hNe] at hNb hNk hNz
   have HKr:=Hj hNk
   have HZr:=Hj hNz
   have hXR:XR.heap[R]? =some (.cells #[.int .i64 o.en,.int .i64 o.st,.int .i64 o.er,(.slice a2 o.im.length c2),(.slice a4 o.ef.length c4)] 61 (0,0)):=hNb
   refine bodyPost_ret (results_c rfl _ _ _ _ _ _ _ rfl hXR Tryz.underlying61 rfl (by kernel_rfl)) rfl ?_
   have hL:=HBW.out.trans (HL4.out.mono hwW)
   exact ⟨_,_,rfl,own_base (own_keep HOA4.out HKr.out (Ow HOA4.out (by omega))) hwW,own_base (own_keep HOB4.out HKr.out (Ow HOB4.out (by omega))) hwW,hL.trans (HKr.out.below hL.size (G1 (by omega)))⟩
  try simp only[pick,Gs,Gz]
  go_wp2
  obtain ⟨B,hB⟩:∃A,A=y1.heap.size:=⟨_,rfl⟩
  obtain ⟨y2,hwn⟩:∃X,X=y1.alloc (.cells #[] 5):=⟨_,rfl⟩
  rw[←hwn,←hB]
  have hb2:Below y1.heap.size y1 y2:=by rw[hwn];exact (Br _ _).alloc (Nr _) _
  have hz2:=hb2.size
  have hn2:y2.heap[B]? =some (.cells #[] 5 (0,0)):=by rw[hwn,hB];exact heap_alloc_new _ _
  have hl2:B<y2.heap.size:=(Al hn2)
  have HL2:Hid (Below W.heap.size W y2):=Hj (HL1.out.trans (hb2.mono HL1.out.size))
  have hq2:=HL2.out.size
  have hqq2:=HL1.out.size
  have HOB2:Hid (y2.ownsRow W.heap.size 5 1 (.slice (some ⟨B,0,none⟩) 0 0) 0 []):=Hj ⟨by simp,.inr ⟨_,0,#[],rfl,by omega,hn2,by omega,by unfold maxLen;omega,rfl,rfl⟩⟩
  have HOA2:=Hj (own_below HOA1.out hb2 (Nr _))
  have HS2:=Hj (same_below' HS1.out hb2)
  have hge2:y1.heap.size≤B:=by omega
  clear hwn hn2 hb2 hB
  refine Sm (Ss HS2.out) ?_
  try simp only[pick,Gs,Gz]
  go_wp2
  refine Rm ?_
  refine Wq ?_
  try simp only[pick,Gs,Gz]
  have HX3:=Hj (Rb HI.out HL2.out)
  have hq3:=HL2.out.size
  go_wp2_with (at_builtin;refine wpList_appF el22 Tryz.underlying22 HOA2.out HX3.out HL2.out rfl _ _ rfl rfl rfl ?c3 (Nr _) ?c5 ?_)
  case c3=>omega
  case c5=>omega
  intro v3 y3 hown hb3 hk3 hf3
  obtain ⟨a3,c3,rfl⟩:=Oq hown
  obtain ⟨q3,hq3'⟩:∃n,n=o.im.length:=⟨_,rfl⟩
  have hz3:y2.heap.size≤y3.heap.size:=hk3.size
  have HOA3:Hid (y3.ownsRow W.heap.size 5 1 (.slice a3 o.im.length c3) o.im.length (bytesV o.im)):=Hj (by simpa using hown)
  have HL3:=Hj hb3
  have HS3:=Hj (same_keep HS2.out hk3 (fun z hz hm=>by rw[List.mem_singleton] at hz;subst hz;simp[Value.ownBlock] at hm;omega))
  have HOB3:=Hj (own_keep HOB2.out hk3 (fun z hz hm=>by simp[Value.ownBlock] at hz hm;omega))
  have hneA:∀z,(Value.slice a3 o.im.length c3).ownBlock=some z→z≠B:=fun z hz e=>by
   rcases hf3 z (by simp[hz]) with h | h
   ·simp[Value.ownBlock] at h;omega
   omega
  clear hown hb3 hk3 hf3
  refine Sm (Ss HS3.out) ?_
  try simp only[pick,Gs,Gz]
  go_wp2
  refine Rm ?_
  refine Wq ?_
  try simp only[pick,Gs,Gz]
  have HX4:=Hj (Rb HE.out HL3.out)
  have hq4:=HL3.out.size
  go_wp2_with (at_builtin;refine wpList_appF el22 Tryz.underlying22 HOB3.out HX4.out HL3.out rfl _ _ rfl rfl rfl ?c3 (Nr _) ?c5 ?_)
  case c3=>omega
  case c5=>omega
  intro v4 y4 hown hb4 hk4 hf4
  obtain ⟨a4,c4,rfl⟩:=Oq hown
  obtain ⟨q4,hq4'⟩:∃n,n=o.ef.length:=⟨_,rfl⟩
  have hz4:y3.heap.size≤y4.heap.size:=hk4.size
  have HOB4:Hid (y4.ownsRow W.heap.size 5 1 (.slice a4 o.ef.length c4) o.ef.length (bytesV o.ef)):=Hj (by simpa using hown)
  have HL4:=Hj hb4
  have HS4:=Hj (same_keep HS3.out hk4 (fun z hz hm=>by rw[List.mem_singleton] at hz;subst hz;simp[Value.ownBlock] at hm;omega))
  have HOA4:=Hj (own_keep HOA3.out hk4 (fun z hz hm=>by simp only[Value.ownBlock,Option.toList,List.mem_singleton] at hm;exact hneA z hz hm))
  clear hown hb4 hk4 hf4
  have hq9:=HL4.out.size
  have HOb:=Hj ((HL4.out.block O (by omega)).trans HO.out)
  have HRb:=Hj ((HL4.out.block R hRW).trans HR.out)
  clear o_0 o_1 o_2 o_3 o_4
  have r0:=Bj HRb.out 0 rfl
  have f0:=Bf HRb.out 0
  have r1:=Bj HRb.out 1 rfl
  have f1:=Bf HRb.out 1
  have r2:=Bj HRb.out 2 rfl
  have f2:=Bf HRb.out 2
  have r3:=Bj HRb.out 3 rfl
  have f3:=Bf HRb.out 3
  have r4:=Bj HRb.out 4 rfl
  have f4:=Bf HRb.out 4
  have o_0:y4.cell? ⟨O,0,none⟩=some (.int .i64 o.en):=Bo HOb.out rfl
  have o_1:y4.cell? ⟨O,1,none⟩=some (.int .i64 o.st):=Bo HOb.out rfl
  have o_2:y4.cell? ⟨O,2,none⟩=some (.int .i64 o.er):=Bo HOb.out rfl
  have o_3:y4.cell? ⟨O,3,none⟩=some (.slice ai o.im.length ac):=Bo HOb.out rfl
  have o_4:y4.cell? ⟨O,4,none⟩=some (.slice ae o.ef.length aec):=Bo HOb.out rfl
  go_wp2
  refine Sm (Ss HS4.out) ?_
  try simp only[pick,Gs,Gz]
  go_wp2
  refine Rm ?_
  refine Wq ?_
  try simp only[pick,Gs,Gz]
  go_wp2
  refine Sm (Ty.Shown.last rfl) ?_
  try simp only[pick,Gs,Gz]
  go_wp2
  refine Rm ?_
  refine Wd (by rfl) ⟨.head _,.head _,.head _,.head _,.head _,trivial⟩ ?_
  clear r0 r1 r2 r3 r4 f0 f1 f2 f3 f4 o_0 o_1 o_2 o_3 o_4
  go_wp2
  obtain ⟨XR,hN⟩:∃X,X=(((((y4.setCell ⟨R,0,none⟩ (.int .i64 o.en)).setCell ⟨R,1,none⟩ (.int .i64 o.st)).setCell ⟨R,2,none⟩ (.int .i64 o.er)).setCell ⟨R,3,none⟩ (.slice a3 o.im.length c3)).setCell ⟨R,4,none⟩ (.slice a4 o.ef.length c4)):=⟨_,rfl⟩
  rw[←hN]
  obtain ⟨hNb,hNk⟩:=puts_at [(0,.int .i64 o.en),(1,.int .i64 o.st),(2,.int .i64 o.er),(3,.slice a3 o.im.length c3),(4,.slice a4 o.ef.length c4)] HRb.out
  have hNe:puts y4 R [(0,.int .i64 o.en),(1,.int .i64 o.st),(2,.int .i64 o.er),(3,.slice a3 o.im.length c3),(4,.slice a4 o.ef.length c4)]=XR:=hN.symm
  have hNz:=puts_size [(0,.int .i64 o.en),(1,.int .i64 o.st),(2,.int .i64 o.er),(3,.slice a3 o.im.length c3),(4,.slice a4 o.ef.length c4)] y4 R
  rw[hNe] at hNb hNk hNz
  have HKr:=Hj hNk
  have HZr:=Hj hNz
  have hXR:XR.heap[R]? =some (.cells #[.int .i64 o.en,.int .i64 o.st,.int .i64 o.er,(.slice a3 o.im.length c3),(.slice a4 o.ef.length c4)] 61 (0,0)):=hNb
  refine bodyPost_ret (results_c rfl _ _ _ _ _ _ _ rfl hXR Tryz.underlying61 rfl (by kernel_rfl)) rfl ?_
  have hL:=HBW.out.trans (HL4.out.mono hwW)
  exact ⟨_,_,rfl,own_base (own_keep HOA4.out HKr.out (Ow HOA4.out (by omega))) hwW,own_base (own_keep HOB4.out HKr.out (Ow HOB4.out (by omega))) hwW,hL.trans (HKr.out.below hL.size (G1 (by omega)))⟩
 try simp only[pick,Gs,Gz]
 go_wp2
 obtain ⟨B,hB⟩:∃A,A=W.heap.size:=⟨_,rfl⟩
 obtain ⟨y1,hwn⟩:∃X,X=(W.alloc (.cells #[] 5)).drew:=⟨_,rfl⟩
 rw[←hwn,←hB]
 have hb1:Below W.heap.size W y1:=by rw[hwn];exact ((Br _ _).alloc (Nr _) _).drew
 have hz1:=hb1.size
 have hn1:y1.heap[B]? =some (.cells #[] 5 (0,0)):=by rw[hwn,hB];exact ((Br (W.alloc (.cells #[] 5)).heap.size _).drew.block _ (by simp)).trans (heap_alloc_new _ _)
 have hl1:B<y1.heap.size:=(Al hn1)
 have HL1:Hid (Below W.heap.size W y1):=Hj (hb1)
 have hq1:=HL1.out.size
 have HOB1:Hid (y1.ownsRow W.heap.size 5 1 (.slice (some ⟨B,0,none⟩) 0 0) 0 []):=Hj ⟨by simp,.inr ⟨_,0,#[],rfl,by omega,hn1,by omega,by unfold maxLen;omega,rfl,rfl⟩⟩
 have HS1:Hid (SameB [O] W.drew y1):=Hj (same_below' (same_start hBl) (show Below W.drew.heap.size W.drew y1 by rw[hwn];exact (Br W.drew.heap.size W.drew).alloc (Nr _) _))
 have hge1:W.heap.size≤B:=by omega
 clear hwn hn1 hb1 hB
 refine Sm (Ss HS1.out) ?_
 try simp only[pick,Gs,Gz]
 go_wp2
 refine Rm ?_
 refine Wq ?_
 try simp only[pick,Gs,Gz]
 go_wp2
 obtain ⟨A,hA⟩:∃A,A=y1.heap.size:=⟨_,rfl⟩
 obtain ⟨y2,hwn⟩:∃X,X=y1.alloc (.cells #[] 5):=⟨_,rfl⟩
 rw[←hwn,←hA]
 have hb2:Below y1.heap.size y1 y2:=by rw[hwn];exact (Br _ _).alloc (Nr _) _
 have hz2:=hb2.size
 have hn2:y2.heap[A]? =some (.cells #[] 5 (0,0)):=by rw[hwn,hA];exact heap_alloc_new _ _
 have hl2:A<y2.heap.size:=(Al hn2)
 have HL2:Hid (Below W.heap.size W y2):=Hj (HL1.out.trans (hb2.mono HL1.out.size))
 have hq2:=HL2.out.size
 have hqq2:=HL1.out.size
 have HOA2:Hid (y2.ownsRow W.heap.size 5 1 (.slice (some ⟨A,0,none⟩) 0 0) 0 []):=Hj ⟨by simp,.inr ⟨_,0,#[],rfl,by omega,hn2,by omega,by unfold maxLen;omega,rfl,rfl⟩⟩
 have HOB2:=Hj (own_below HOB1.out hb2 (Nr _))
 have HS2:=Hj (same_below' HS1.out hb2)
 have hge2:y1.heap.size≤A:=by omega
 clear hwn hn2 hb2 hA
 refine Sm (Ss HS2.out) ?_
 try simp only[pick,Gs,Gz]
 go_wp2
 refine Rm ?_
 refine Wq ?_
 try simp only[pick,Gs,Gz]
 have HX3:=Hj (Rb HI.out HL2.out)
 have hq3:=HL2.out.size
 go_wp2_with (at_builtin;refine wpList_appF el22 Tryz.underlying22 HOA2.out HX3.out HL2.out rfl _ _ rfl rfl rfl ?c3 (Nr _) ?c5 ?_)
 case c3=>omega
 case c5=>omega
 intro v3 y3 hown hb3 hk3 hf3
 obtain ⟨a3,c3,rfl⟩:=Oq hown
 obtain ⟨q3,hq3'⟩:∃n,n=o.im.length:=⟨_,rfl⟩
 have hz3:y2.heap.size≤y3.heap.size:=hk3.size
 have HOA3:Hid (y3.ownsRow W.heap.size 5 1 (.slice a3 o.im.length c3) o.im.length (bytesV o.im)):=Hj (by simpa using hown)
 have HL3:=Hj hb3
 have HS3:=Hj (same_keep HS2.out hk3 (fun z hz hm=>by rw[List.mem_singleton] at hz;subst hz;simp[Value.ownBlock] at hm;omega))
 have HOB3:=Hj (own_keep HOB2.out hk3 (fun z hz hm=>by simp[Value.ownBlock] at hz hm;omega))
 have hneA:∀z,(Value.slice a3 o.im.length c3).ownBlock=some z→z≠B:=fun z hz e=>by
  rcases hf3 z (by simp[hz]) with h | h
  ·simp[Value.ownBlock] at h;omega
  omega
 clear hown hb3 hk3 hf3
 refine Sm (Ss HS3.out) ?_
 try simp only[pick,Gs,Gz]
 go_wp2
 refine Rm ?_
 refine Wq ?_
 try simp only[pick,Gs,Gz]
 have HX4:=Hj (Rb HE.out HL3.out)
 have hq4:=HL3.out.size
 go_wp2_with (at_builtin;refine wpList_appF el22 Tryz.underlying22 HOB3.out HX4.out HL3.out rfl _ _ rfl rfl rfl ?c3 (Nr _) ?c5 ?_)
 case c3=>omega
 case c5=>omega
 intro v4 y4 hown hb4 hk4 hf4
 obtain ⟨a4,c4,rfl⟩:=Oq hown
 obtain ⟨q4,hq4'⟩:∃n,n=o.ef.length:=⟨_,rfl⟩
 have hz4:y3.heap.size≤y4.heap.size:=hk4.size
 have HOB4:Hid (y4.ownsRow W.heap.size 5 1 (.slice a4 o.ef.length c4) o.ef.length (bytesV o.ef)):=Hj (by simpa using hown)
 have HL4:=Hj hb4
 have HS4:=Hj (same_keep HS3.out hk4 (fun z hz hm=>by rw[List.mem_singleton] at hz;subst hz;simp[Value.ownBlock] at hm;omega))
 have HOA4:=Hj (own_keep HOA3.out hk4 (fun z hz hm=>by simp only[Value.ownBlock,Option.toList,List.mem_singleton] at hm;exact hneA z hz hm))
 clear hown hb4 hk4 hf4
 have hq9:=HL4.out.size
 have HOb:=Hj ((HL4.out.block O (by omega)).trans HO.out)
 have HRb:=Hj ((HL4.out.block R hRW).trans HR.out)
 clear o_0 o_1 o_2 o_3 o_4
 have r0:=Bj HRb.out 0 rfl
 have f0:=Bf HRb.out 0
 have r1:=Bj HRb.out 1 rfl
 have f1:=Bf HRb.out 1
 have r2:=Bj HRb.out 2 rfl
 have f2:=Bf HRb.out 2
 have r3:=Bj HRb.out 3 rfl
 have f3:=Bf HRb.out 3
 have r4:=Bj HRb.out 4 rfl
 have f4:=Bf HRb.out 4
 have o_0:y4.cell? ⟨O,0,none⟩=some (.int .i64 o.en):=Bo HOb.out rfl
 have o_1:y4.cell? ⟨O,1,none⟩=some (.int .i64 o.st):=Bo HOb.out rfl
 have o_2:y4.cell? ⟨O,2,none⟩=some (.int .i64 o.er):=Bo HOb.out rfl
 have o_3:y4.cell? ⟨O,3,none⟩=some (.slice ai o.im.length ac):=Bo HOb.out rfl
 have o_4:y4.cell? ⟨O,4,none⟩=some (.slice ae o.ef.length aec):=Bo HOb.out rfl
 go_wp2
 refine Sm (Ss HS4.out) ?_
 try simp only[pick,Gs,Gz]
 go_wp2
 refine Rm ?_
 refine Wq ?_
 try simp only[pick,Gs,Gz]
 go_wp2
 refine Sm (Ty.Shown.last rfl) ?_
 try simp only[pick,Gs,Gz]
 go_wp2
 refine Rm ?_
 refine Wd (by rfl) ⟨.head _,.head _,.head _,.head _,.head _,trivial⟩ ?_
 clear r0 r1 r2 r3 r4 f0 f1 f2 f3 f4 o_0 o_1 o_2 o_3 o_4
 go_wp2
 obtain ⟨XR,hN⟩:∃X,X=(((((y4.setCell ⟨R,0,none⟩ (.int .i64 o.en)).setCell ⟨R,1,none⟩ (.int .i64 o.st)).setCell ⟨R,2,none⟩ (.int .i64 o.er)).setCell ⟨R,3,none⟩ (.slice a3 o.im.length c3)).setCell ⟨R,4,none⟩ (.slice a4 o.ef.length c4)):=⟨_,rfl⟩
 rw[←hN]
 obtain ⟨hNb,hNk⟩:=puts_at [(0,.int .i64 o.en),(1,.int .i64 o.st),(2,.int .i64 o.er),(3,.slice a3 o.im.length c3),(4,.slice a4 o.ef.length c4)] HRb.out
 have hNe:puts y4 R [(0,.int .i64 o.en),(1,.int .i64 o.st),(2,.int .i64 o.er),(3,.slice a3 o.im.length c3),(4,.slice a4 o.ef.length c4)]=XR:=hN.symm
 have hNz:=puts_size [(0,.int .i64 o.en),(1,.int .i64 o.st),(2,.int .i64 o.er),(3,.slice a3 o.im.length c3),(4,.slice a4 o.ef.length c4)] y4 R
 rw[hNe] at hNb hNk hNz
 have HKr:=Hj hNk
 have HZr:=Hj hNz
 have hXR:XR.heap[R]? =some (.cells #[.int .i64 o.en,.int .i64 o.st,.int .i64 o.er,(.slice a3 o.im.length c3),(.slice a4 o.ef.length c4)] 61 (0,0)):=hNb
 refine bodyPost_ret (results_c rfl _ _ _ _ _ _ _ rfl hXR Tryz.underlying61 rfl (by kernel_rfl)) rfl ?_
 have hL:=HBW.out.trans (HL4.out.mono hwW)
 exact ⟨_,_,rfl,own_base (own_keep HOA4.out HKr.out (Ow HOA4.out (by omega))) hwW,own_base (own_keep HOB4.out HKr.out (Ow HOB4.out (by omega))) hwW,hL.trans (HKr.out.below hL.size (G1 (by omega)))⟩
end Go.Proofs.YtipiofgdjbogiaaGreat
