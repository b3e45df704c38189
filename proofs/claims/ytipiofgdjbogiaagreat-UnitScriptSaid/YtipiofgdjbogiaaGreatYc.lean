/- the reference's outcomes -/
import Derived.Test.YtipiofgdjbogiaaGreatYb
set_option maxRecDepth 100000
set_option maxHeartbeats 8000000
namespace Go.Proofs.YtipiofgdjbogiaaGreat
open Go.Txt Go.RowKit Go.Bs Go.Cl Go.Rw Go.Un Go.Im Go.Fa
theorem routput_any (F:List Nat) (p:FP) (x:Int) (o:Oc) (iv ev:Value) (w:World) (hil:o.im.length≤24000) (hel:o.ef.length≤24000) (hI:Bytes F w iv o.im) (hE:Bytes F w ev o.ef):
  Calls Tryz.prog 46 #[.agg p.cs,.int .i64 x,.agg #[.int .i64 o.en,.int .i64 o.st,.int .i64 o.er,iv,ev]] w fun e w'=>∃iv' ev',e= .returned (.agg #[.int .i64 (fout p x o).en,.int .i64 (fout p x o).st,.int .i64 (fout p x o).er,iv',ev'])∧
   w'.ownsRow w.heap.size 5 1 iv' (fout p x o).im.length (bytesV (fout p x o).im)∧w'.ownsRow w.heap.size 5 1 ev' (fout p x o).ef.length (bytesV (fout p x o).ef)∧Below w.heap.size w w':=by
 have HV:=Hj (rvalid27_any p)
 obtain ⟨pc,pn,pe,pk,ps,ppl,pm⟩:=p
 obtain ⟨en,st,er,im,ef⟩:=o
 obtain ⟨ia,ic,rfl⟩:=Rs hI
 obtain ⟨ea,ec,rfl⟩:=Rs hE
 have HI:=Hj hI;have HE:=Hj hE
 clear hI hE
 simp only[FP.cs] at HV hil hel⊢
 obtain ⟨u,hu⟩:∃u,u=((w.alloc (.cells #[.int .i64 pc,.int .i64 pn,.int .i64 pe,.int .i64 pk,.int .i64 ps,.int .i64 ppl,.int .i64 pm] 41)).alloc (.cells #[.int .i64 en,.int .i64 st,.int .i64 er,.slice ia im.length ic,.slice ea ef.length ec] 46)).alloc (.cells #[.int .i64 0,.int .i64 0,.int .i64 0,.slice none 0 0,.slice none 0 0] 46):=⟨_,rfl⟩
 have HU:=Hj hu
 have HB:Hid (Below w.heap.size w u):=Hj (by rw[hu];exact b3 _ _ _ _)
 have HPu:Hid (u.heap[w.heap.size]? =some (.cells #[.int .i64 pc,.int .i64 pn,.int .i64 pe,.int .i64 pk,.int .i64 ps,.int .i64 ppl,.int .i64 pm] 41 (0,0))):=Hj (by rw[hu];exact (((Br ((w.alloc _).alloc _).heap.size _).alloc (Nr _) _).block w.heap.size (by simp;omega)).trans (a2_0 w _ _))
 have HOu:Hid (u.heap[w.heap.size+1]? =some (.cells #[.int .i64 en,.int .i64 st,.int .i64 er,.slice ia im.length ic,.slice ea ef.length ec] 46 (0,0))):=Hj (by rw[hu];exact (((Br ((w.alloc _).alloc _).heap.size _).alloc (Nr _) _).block (w.heap.size+1) (by simp)).trans (a2_1 w _ _))
 have HRu:Hid (u.heap[w.heap.size+1+1]? =some (.cells #[.int .i64 0,.int .i64 0,.int .i64 0,.slice none 0 0,.slice none 0 0] 46 (0,0))):=Hj (by rw[hu];exact a3 _ _ _ _)
 have HIu:=Hj (Rb HI.out HB.out)
 have HEu:=Hj (Rb HE.out HB.out)
 have hus:u.heap.size=w.heap.size+3:=by rw[hu];simp
 clear hu
 go_enter Tryz.func46,Tryz.ntmps46
 go_upto_region 1 with (fail)
 rw[←HU.out]
 obtain ⟨P,hP⟩:∃P,P=w.heap.size:=⟨_,rfl⟩
 obtain ⟨O,hO⟩:∃O,O=w.heap.size+1:=⟨_,rfl⟩
 obtain ⟨R,hR⟩:∃R,R=w.heap.size+1+1:=⟨_,rfl⟩
 rw[←hR,←hO,←hP]
 rw[←hP] at HPu;rw[←hO] at HOu;rw[←hR] at HRu
 have hPO:P<O:=by omega
 have hOR:O<R:=by omega
 have hRu:R<u.heap.size:=by omega
 have hwP:w.heap.size≤P:=by omega
 have hwu:w.heap.size≤u.heap.size:=by omega
 clear HU hP hO hR hus
 go_cut [] from 8 to 18 (fun wx=>∃a1 c1 a2 c2,wx.heap[O]? =some (.cells #[.int .i64 en,.int .i64 st,.int .i64 er,.slice a1 im.length c1,.slice a2 ef.length c2] 46 (0,0))∧wx.heap[P]? =some (.cells #[.int .i64 pc,.int .i64 pn,.int .i64 pe,.int .i64 pk,.int .i64 ps,.int .i64 ppl,.int .i64 pm] 41 (0,0))∧wx.heap[R]? =some (.cells #[.int .i64 0,.int .i64 0,.int .i64 0,.slice none 0 0,.slice none 0 0] 46 (0,0))∧wx.ownsRow u.heap.size 5 1 (.slice a1 im.length c1) im.length (bytesV im)∧wx.ownsRow u.heap.size 5 1 (.slice a2 ef.length c2) ef.length (bytesV ef)∧Below w.heap.size w wx∧u.heap.size≤wx.heap.size)
 case first=>
  have o0:=Bj HOu.out 0 rfl
  have o1:=Bj HOu.out 1 rfl
  have o2:=Bj HOu.out 2 rfl
  have o3:=Bj HOu.out 3 rfl
  have o4:=Bj HOu.out 4 rfl
  have hBl:∀b∈[O],∃c e f,u.heap[b]? =some (.cells c e f):=fun q hq=>by rw[M1' hq];exact ⟨_,_,_,HOu.out⟩
  have HS0:=Hj (same_start hBl)
  refine Ty.wp_tree [O] [2,6] [9,11] [2,6] [1,2,5,6] (.alt [0] (.alt [3,8] (.alt [4] (.alt [7] (.alt [9,10] (.alt [11] (.done) (.no)) (.no)) (.no)) (.no)) (.alt [4] (.alt [3,8] (.alt [7] (.alt [9,10] (.alt [11] (.done) (.no)) (.no)) (.no)) (.no)) (.no))) (.alt [4] (.alt [0] (.alt [3,8] (.alt [7] (.alt [9,10] (.alt [11] (.done) (.no)) (.no)) (.no)) (.no)) (.no)) (.no))) (by kernel_rfl) (by kernel_rfl) (by kernel_rfl) (by kernel_rfl) hBl ?_
  try simp only[pick,Gs,Gz]
  go_wp2
  refine Rm ?_
  refine Wa ?_ (Wa ?_ Ty.wpTr_no)
  ·try simp only[pick,Gs,Gz]
   go_wp2
   obtain ⟨A,hA⟩:∃A,A=u.heap.size:=⟨_,rfl⟩
   obtain ⟨y1,hwn⟩:∃X,X=(u.alloc (.cells #[] 5)).drew:=⟨_,rfl⟩
   rw[←hwn,←hA]
   have hb1:Below u.heap.size u y1:=by rw[hwn];exact ((Br _ _).alloc (Nr _) _).drew
   have hz1:=hb1.size
   have hn1:y1.heap[A]? =some (.cells #[] 5 (0,0)):=by rw[hwn,hA];exact ((Br (u.alloc (.cells #[] 5)).heap.size _).drew.block _ (by simp)).trans (heap_alloc_new _ _)
   have hl1:A<y1.heap.size:=(Al hn1)
   have HL1:Hid (Below u.heap.size u y1):=Hj (hb1)
   have hq1:=HL1.out.size
   have HOA1:Hid (y1.ownsRow u.heap.size 5 1 (.slice (some ⟨A,0,none⟩) 0 0) 0 []):=Hj ⟨by simp,.inr ⟨_,0,#[],rfl,by omega,hn1,by omega,by unfold maxLen;omega,rfl,rfl⟩⟩
   have HS1:Hid (SameB [O] u.drew y1):=Hj (same_below' (same_start hBl) (show Below u.drew.heap.size u.drew y1 by rw[hwn];exact (Br u.drew.heap.size u.drew).alloc (Nr _) _))
   have hge1:u.heap.size≤A:=by omega
   clear hwn hn1 hb1 hA
   refine Sm (Ss HS1.out) ?_
   try simp only[pick,Gs,Gz]
   go_wp2
   refine Rm ?_
   refine Wa ?_ (Wa ?_ Ty.wpTr_no)
   ·try simp only[pick,Gs,Gz]
    have HX2:=Hj (Rb HIu.out HL1.out)
    have hq2:=HL1.out.size
    go_wp2_with (at_builtin;refine wpList_appF el22 Tryz.underlying22 HOA1.out HX2.out HL1.out rfl _ _ rfl rfl rfl ?c3 (Nr _) ?c5 ?_)
    case c3=>omega
    case c5=>omega
    intro v2 y2 hown hb2 hk2 hf2
    obtain ⟨a2,c2,rfl⟩:=Oq hown
    obtain ⟨q2,hq2'⟩:∃n,n=im.length:=⟨_,rfl⟩
    have hz2:y1.heap.size≤y2.heap.size:=hk2.size
    have HOA2:Hid (y2.ownsRow u.heap.size 5 1 (.slice a2 im.length c2) im.length (bytesV im)):=Hj (by simpa using hown)
    have HL2:=Hj hb2
    have HS2:=Hj (same_keep HS1.out hk2 (fun z hz hm=>by rw[List.mem_singleton] at hz;subst hz;simp[Value.ownBlock] at hm;omega))
    have hltA:∀z,(Value.slice a2 im.length c2).ownBlock=some z→z<y2.heap.size:=fun z hz=>(HOA2.out.lt z hz).2
    clear hown hb2 hk2 hf2
    refine Sm (Ss HS2.out) ?_
    try simp only[pick,Gs,Gz]
    go_wp2
    refine Rm ?_
    refine Wq ?_
    try simp only[pick,Gs,Gz]
    go_wp2
    obtain ⟨B,hB⟩:∃A,A=y2.heap.size:=⟨_,rfl⟩
    obtain ⟨y3,hwn⟩:∃X,X=y2.alloc (.cells #[] 5):=⟨_,rfl⟩
    rw[←hwn,←hB]
    have hb3:Below y2.heap.size y2 y3:=by rw[hwn];exact (Br _ _).alloc (Nr _) _
    have hz3:=hb3.size
    have hn3:y3.heap[B]? =some (.cells #[] 5 (0,0)):=by rw[hwn,hB];exact heap_alloc_new _ _
    have hl3:B<y3.heap.size:=(Al hn3)
    have HL3:Hid (Below u.heap.size u y3):=Hj (HL2.out.trans (hb3.mono HL2.out.size))
    have hq3:=HL3.out.size
    have hqq3:=HL2.out.size
    have HOB3:Hid (y3.ownsRow u.heap.size 5 1 (.slice (some ⟨B,0,none⟩) 0 0) 0 []):=Hj ⟨by simp,.inr ⟨_,0,#[],rfl,by omega,hn3,by omega,by unfold maxLen;omega,rfl,rfl⟩⟩
    have HOA3:=Hj (own_below HOA2.out hb3 (Nr _))
    have HS3:=Hj (same_below' HS2.out hb3)
    have hneA:∀z,(Value.slice a2 im.length c2).ownBlock=some z→z≠B:=fun z hz e=>by have:=hltA z hz;omega
    have hge3:y2.heap.size≤B:=by omega
    clear hwn hn3 hb3 hB
    refine Sm (Ss HS3.out) ?_
    try simp only[pick,Gs,Gz]
    go_wp2
    refine Rm ?_
    refine Wq ?_
    try simp only[pick,Gs,Gz]
    have HX4:=Hj (Rb HEu.out HL3.out)
    have hq4:=HL3.out.size
    go_wp2_with (at_builtin;refine wpList_appF el22 Tryz.underlying22 HOB3.out HX4.out HL3.out rfl _ _ rfl rfl rfl ?c3 (Nr _) ?c5 ?_)
    case c3=>omega
    case c5=>omega
    intro v4 y4 hown hb4 hk4 hf4
    obtain ⟨a4,c4,rfl⟩:=Oq hown
    obtain ⟨q4,hq4'⟩:∃n,n=ef.length:=⟨_,rfl⟩
    have hz4:y3.heap.size≤y4.heap.size:=hk4.size
    have HOB4:Hid (y4.ownsRow u.heap.size 5 1 (.slice a4 ef.length c4) ef.length (bytesV ef)):=Hj (by simpa using hown)
    have HL4:=Hj hb4
    have HS4:=Hj (same_keep HS3.out hk4 (fun z hz hm=>by rw[List.mem_singleton] at hz;subst hz;simp[Value.ownBlock] at hm;omega))
    have HOA4:=Hj (own_keep HOA3.out hk4 (fun z hz hm=>by simp only[Value.ownBlock,Option.toList,List.mem_singleton] at hm;exact hneA z hz hm))
    clear hown hb4 hk4 hf4
    have hq9:=HL4.out.size
    have HOb:=Hj ((HL4.out.block O (by omega)).trans HOu.out)
    have HRb:=Hj ((HL4.out.block R (by omega)).trans HRu.out)
    have HPb:=Hj ((HL4.out.block P (by omega)).trans HPu.out)
    clear o0 o1 o2 o3 o4
    have o3:=Bj HOb.out 3 rfl
    have o4:=Bj HOb.out 4 rfl
    have g3:=Bf HOb.out 3
    have g4:=Bf HOb.out 4
    go_wp2
    refine Sm (Ss HS4.out) ?_
    try simp only[pick,Gs,Gz]
    go_wp2
    refine Rm ?_
    refine Wq ?_
    try simp only[pick,Gs,Gz]
    go_wp2
    refine Sm (Ty.Shown.last rfl) ?_
    try simp only[pick,Gs,Gz]
    go_wp2
    refine Rm ?_
    refine Wq ?_
    try simp only[pick,Gs,Gz]
    go_wp2
    refine Sm (Ty.Shown.last rfl) ?_
    try simp only[pick,Gs,Gz]
    go_wp2
    refine Rm ?_
    refine Wd (by rfl) ⟨.head _,.head _,trivial⟩ ?_
    go_wp2
    go_meet
    case rel=>
     obtain ⟨hXO,hXK⟩:=puts_at [(3,.slice a2 im.length c2),(4,.slice a4 ef.length c4)] HOb.out
     have hXz:=hXK.size
     have hLw:=HB.out.trans (HL4.out.mono HB.out.size)
     refine ⟨a2,c2,a4,c4,hXO,(hXK.block P (by omega) (by simp;omega)).trans HPb.out,(hXK.block R (by omega) (by simp;omega)).trans HRb.out,own_keep HOA4.out hXK (Ow HOA4.out (by omega)),own_keep HOB4.out hXK (Ow HOB4.out (by omega)),hLw.trans (hXK.below hLw.size (G1 (by omega))),Nat.le_trans hq9 hXz⟩
   try simp only[pick,Gs,Gz]
   go_wp2
   obtain ⟨B,hB⟩:∃A,A=y1.heap.size:=⟨_,rfl⟩
   obtain ⟨y2,hwn⟩:∃X,X=y1.alloc (.cells #[] 5):=⟨_,rfl⟩
   rw[←hwn,←hB]
   have hb2:Below y1.heap.size y1 y2:=by rw[hwn];exact (Br _ _).alloc (Nr _) _
   have hz2:=hb2.size
   have hn2:y2.heap[B]? =some (.cells #[] 5 (0,0)):=by rw[hwn,hB];exact heap_alloc_new _ _
   have hl2:B<y2.heap.size:=(Al hn2)
   have HL2:Hid (Below u.heap.size u y2):=Hj (HL1.out.trans (hb2.mono HL1.out.size))
   have hq2:=HL2.out.size
   have hqq2:=HL1.out.size
   have HOB2:Hid (y2.ownsRow u.heap.size 5 1 (.slice (some ⟨B,0,none⟩) 0 0) 0 []):=Hj ⟨by simp,.inr ⟨_,0,#[],rfl,by omega,hn2,by omega,by unfold maxLen;omega,rfl,rfl⟩⟩
   have HOA2:=Hj (own_below HOA1.out hb2 (Nr _))
   have HS2:=Hj (same_below' HS1.out hb2)
   have hge2:y1.heap.size≤B:=by omega
   clear hwn hn2 hb2 hB
   refine Sm (Ss HS2.out) ?_
   try simp only[pick,Gs,Gz]
   go_wp2
   refine Rm ?_
   refine Wq ?_
   try simp only[pick,Gs,Gz]
   have HX3:=Hj (Rb HIu.out HL2.out)
   have hq3:=HL2.out.size
   go_wp2_with (at_builtin;refine wpList_appF el22 Tryz.underlying22 HOA2.out HX3.out HL2.out rfl _ _ rfl rfl rfl ?c3 (Nr _) ?c5 ?_)
   case c3=>omega
   case c5=>omega
   intro v3 y3 hown hb3 hk3 hf3
   obtain ⟨a3,c3,rfl⟩:=Oq hown
   obtain ⟨q3,hq3'⟩:∃n,n=im.length:=⟨_,rfl⟩
   have hz3:y2.heap.size≤y3.heap.size:=hk3.size
   have HOA3:Hid (y3.ownsRow u.heap.size 5 1 (.slice a3 im.length c3) im.length (bytesV im)):=Hj (by simpa using hown)
   have HL3:=Hj hb3
   have HS3:=Hj (same_keep HS2.out hk3 (fun z hz hm=>by rw[List.mem_singleton] at hz;subst hz;simp[Value.ownBlock] at hm;omega))
   have HOB3:=Hj (own_keep HOB2.out hk3 (fun z hz hm=>by simp[Value.ownBlock] at hz hm;omega))
   have hneA:∀z,(Value.slice a3 im.length c3).ownBlock=some z→z≠B:=fun z hz e=>by
    rcases hf3 z (by simp[hz]) with h | h
    ·simp[Value.ownBlock] at h;omega
    omega
   clear hown hb3 hk3 hf3
   refine Sm (Ss HS3.out) ?_
   try simp only[pick,Gs,Gz]
   go_wp2
   refine Rm ?_
   refine Wq ?_
   try simp only[pick,Gs,Gz]
   have HX4:=Hj (Rb HEu.out HL3.out)
   have hq4:=HL3.out.size
   go_wp2_with (at_builtin;refine wpList_appF el22 Tryz.underlying22 HOB3.out HX4.out HL3.out rfl _ _ rfl rfl rfl ?c3 (Nr _) ?c5 ?_)
   case c3=>omega
   case c5=>omega
   intro v4 y4 hown hb4 hk4 hf4
   obtain ⟨a4,c4,rfl⟩:=Oq hown
   obtain ⟨q4,hq4'⟩:∃n,n=ef.length:=⟨_,rfl⟩
   have hz4:y3.heap.size≤y4.heap.size:=hk4.size
   have HOB4:Hid (y4.ownsRow u.heap.size 5 1 (.slice a4 ef.length c4) ef.length (bytesV ef)):=Hj (by simpa using hown)
   have HL4:=Hj hb4
   have HS4:=Hj (same_keep HS3.out hk4 (fun z hz hm=>by rw[List.mem_singleton] at hz;subst hz;simp[Value.ownBlock] at hm;omega))
   have HOA4:=Hj (own_keep HOA3.out hk4 (fun z hz hm=>by simp only[Value.ownBlock,Option.toList,List.mem_singleton] at hm;exact hneA z hz hm))
   clear hown hb4 hk4 hf4
   have hq9:=HL4.out.size
   have HOb:=Hj ((HL4.out.block O (by omega)).trans HOu.out)
   have HRb:=Hj ((HL4.out.block R (by omega)).trans HRu.out)
   have HPb:=Hj ((HL4.out.block P (by omega)).trans HPu.out)
   clear o0 o1 o2 o3 o4
   have o3:=Bj HOb.out 3 rfl
   have o4:=Bj HOb.out 4 rfl
   have g3:=Bf HOb.out 3
   have g4:=Bf HOb.out 4
   go_wp2
   refine Sm (Ss HS4.out) ?_
   try simp only[pick,Gs,Gz]
   go_wp2
   refine Rm ?_
   refine Wq ?_
   try simp only[pick,Gs,Gz]
   go_wp2
   refine Sm (Ty.Shown.last rfl) ?_
   try simp only[pick,Gs,Gz]
   go_wp2
   refine Rm ?_
   refine Wq ?_
   try simp only[pick,Gs,Gz]
   go_wp2
   refine Sm (Ty.Shown.last rfl) ?_
   try simp only[pick,Gs,Gz]
   go_wp2
   refine Rm ?_
   refine Wd (by rfl) ⟨.head _,.head _,trivial⟩ ?_
   go_wp2
   go_meet
   case rel=>
    obtain ⟨hXO,hXK⟩:=puts_at [(3,.slice a3 im.length c3),(4,.slice a4 ef.length c4)] HOb.out
    have hXz:=hXK.size
    have hLw:=HB.out.trans (HL4.out.mono HB.out.size)
    refine ⟨a3,c3,a4,c4,hXO,(hXK.block P (by omega) (by simp;omega)).trans HPb.out,(hXK.block R (by omega) (by simp;omega)).trans HRb.out,own_keep HOA4.out hXK (Ow HOA4.out (by omega)),own_keep HOB4.out hXK (Ow HOB4.out (by omega)),hLw.trans (hXK.below hLw.size (G1 (by omega))),Nat.le_trans hq9 hXz⟩
  try simp only[pick,Gs,Gz]
  go_wp2
  obtain ⟨B,hB⟩:∃A,A=u.heap.size:=⟨_,rfl⟩
  obtain ⟨y1,hwn⟩:∃X,X=(u.alloc (.cells #[] 5)).drew:=⟨_,rfl⟩
  rw[←hwn,←hB]
  have hb1:Below u.heap.size u y1:=by rw[hwn];exact ((Br _ _).alloc (Nr _) _).drew
  have hz1:=hb1.size
  have hn1:y1.heap[B]? =some (.cells #[] 5 (0,0)):=by rw[hwn,hB];exact ((Br (u.alloc (.cells #[] 5)).heap.size _).drew.block _ (by simp)).trans (heap_alloc_new _ _)
  have hl1:B<y1.heap.size:=(Al hn1)
  have HL1:Hid (Below u.heap.size u y1):=Hj (hb1)
  have hq1:=HL1.out.size
  have HOB1:Hid (y1.ownsRow u.heap.size 5 1 (.slice (some ⟨B,0,none⟩) 0 0) 0 []):=Hj ⟨by simp,.inr ⟨_,0,#[],rfl,by omega,hn1,by omega,by unfold maxLen;omega,rfl,rfl⟩⟩
  have HS1:Hid (SameB [O] u.drew y1):=Hj (same_below' (same_start hBl) (show Below u.drew.heap.size u.drew y1 by rw[hwn];exact (Br u.drew.heap.size u.drew).alloc (Nr _) _))
  have hge1:u.heap.size≤B:=by omega
  clear hwn hn1 hb1 hB
  refine Sm (Ss HS1.out) ?_
  try simp only[pick,Gs,Gz]
  go_wp2
  refine Rm ?_
  refine Wq ?_
  try simp only[pick,Gs,Gz]
  go_wp2
  obtain ⟨A,hA⟩:∃A,A=y1.heap.size:=⟨_,rfl⟩
  obtain ⟨y2,hwn⟩:∃X,X=y1.alloc (.cells #[] 5):=⟨_,rfl⟩
  rw[←hwn,←hA]
  have hb2:Below y1.heap.size y1 y2:=by rw[hwn];exact (Br _ _).alloc (Nr _) _
  have hz2:=hb2.size
  have hn2:y2.heap[A]? =some (.cells #[] 5 (0,0)):=by rw[hwn,hA];exact heap_alloc_new _ _
  have hl2:A<y2.heap.size:=(Al hn2)
  have HL2:Hid (Below u.heap.size u y2):=Hj (HL1.out.trans (hb2.mono HL1.out.size))
  have hq2:=HL2.out.size
  have hqq2:=HL1.out.size
  have HOA2:Hid (y2.ownsRow u.heap.size 5 1 (.slice (some ⟨A,0,none⟩) 0 0) 0 []):=Hj ⟨by simp,.inr ⟨_,0,#[],rfl,by omega,hn2,by omega,by unfold maxLen;omega,rfl,rfl⟩⟩
  have HOB2:=Hj (own_below HOB1.out hb2 (Nr _))
  have HS2:=Hj (same_below' HS1.out hb2)
  have hge2:y1.heap.size≤A:=by omega
  clear hwn hn2 hb2 hA
  refine Sm (Ss HS2.out) ?_
  try simp only[pick,Gs,Gz]
  go_wp2
  refine Rm ?_
  refine Wq ?_
  try simp only[pick,Gs,Gz]
  have HX3:=Hj (Rb HIu.out HL2.out)
  have hq3:=HL2.out.size
  go_wp2_with (at_builtin;refine wpList_appF el22 Tryz.underlying22 HOA2.out HX3.out HL2.out rfl _ _ rfl rfl rfl ?c3 (Nr _) ?c5 ?_)
  case c3=>omega
  case c5=>omega
  intro v3 y3 hown hb3 hk3 hf3
  obtain ⟨a3,c3,rfl⟩:=Oq hown
  obtain ⟨q3,hq3'⟩:∃n,n=im.length:=⟨_,rfl⟩
  have hz3:y2.heap.size≤y3.heap.size:=hk3.size
  have HOA3:Hid (y3.ownsRow u.heap.size 5 1 (.slice a3 im.length c3) im.length (bytesV im)):=Hj (by simpa using hown)
  have HL3:=Hj hb3
  have HS3:=Hj (same_keep HS2.out hk3 (fun z hz hm=>by rw[List.mem_singleton] at hz;subst hz;simp[Value.ownBlock] at hm;omega))
  have HOB3:=Hj (own_keep HOB2.out hk3 (fun z hz hm=>by simp[Value.ownBlock] at hz hm;omega))
  have hneA:∀z,(Value.slice a3 im.length c3).ownBlock=some z→z≠B:=fun z hz e=>by
   rcases hf3 z (by simp[hz]) with h | h
   ·simp[Value.ownBlock] at h;omega
   omega
  clear hown hb3 hk3 hf3
  refine Sm (Ss HS3.out) ?_
  try simp only[pick,Gs,Gz]
  go_wp2
  refine Rm ?_
  refine Wq ?_
  try simp only[pick,Gs,Gz]
  have HX4:=Hj (Rb HEu.out HL3.out)
  have hq4:=HL3.out.size
  go_wp2_with (at_builtin;refine wpList_appF el22 Tryz.underlying22 HOB3.out HX4.out HL3.out rfl _ _ rfl rfl rfl ?c3 (Nr _) ?c5 ?_)
  case c3=>omega
  case c5=>omega
  intro v4 y4 hown hb4 hk4 hf4
  obtain ⟨a4,c4,rfl⟩:=Oq hown
  obtain ⟨q4,hq4'⟩:∃n,n=ef.length:=⟨_,rfl⟩
  have hz4:y3.heap.size≤y4.heap.size:=hk4.size
  have HOB4:Hid (y4.ownsRow u.heap.size 5 1 (.slice a4 ef.length c4) ef.length (bytesV ef)):=Hj (by simpa using hown)
  have HL4:=Hj hb4
  have HS4:=Hj (same_keep HS3.out hk4 (fun z hz hm=>by rw[List.mem_singleton] at hz;subst hz;simp[Value.ownBlock] at hm;omega))
  have HOA4:=Hj (own_keep HOA3.out hk4 (fun z hz hm=>by simp only[Value.ownBlock,Option.toList,List.mem_singleton] at hm;exact hneA z hz hm))
  clear hown hb4 hk4 hf4
  have hq9:=HL4.out.size
  have HOb:=Hj ((HL4.out.block O (by omega)).trans HOu.out)
  have HRb:=Hj ((HL4.out.block R (by omega)).trans HRu.out)
  have HPb:=Hj ((HL4.out.block P (by omega)).trans HPu.out)
  clear o0 o1 o2 o3 o4
  have o3:=Bj HOb.out 3 rfl
  have o4:=Bj HOb.out 4 rfl
  have g3:=Bf HOb.out 3
  have g4:=Bf HOb.out 4
  go_wp2
  refine Sm (Ss HS4.out) ?_
  try simp only[pick,Gs,Gz]
  go_wp2
  refine Rm ?_
  refine Wq ?_
  try simp only[pick,Gs,Gz]
  go_wp2
  refine Sm (Ty.Shown.last rfl) ?_
  try simp only[pick,Gs,Gz]
  go_wp2
  refine Rm ?_
  refine Wq ?_
  try simp only[pick,Gs,Gz]
  go_wp2
  refine Sm (Ty.Shown.last rfl) ?_
  try simp only[pick,Gs,Gz]
  go_wp2
  refine Rm ?_
  refine Wd (by rfl) ⟨.head _,.head _,trivial⟩ ?_
  go_wp2
  go_meet
  case rel=>
   obtain ⟨hXO,hXK⟩:=puts_at [(3,.slice a3 im.length c3),(4,.slice a4 ef.length c4)] HOb.out
   have hXz:=hXK.size
   have hLw:=HB.out.trans (HL4.out.mono HB.out.size)
   refine ⟨a3,c3,a4,c4,hXO,(hXK.block P (by omega) (by simp;omega)).trans HPb.out,(hXK.block R (by omega) (by simp;omega)).trans HRb.out,own_keep HOA4.out hXK (Ow HOA4.out (by omega)),own_keep HOB4.out hXK (Ow HOB4.out (by omega)),hLw.trans (hXK.below hLw.size (G1 (by omega))),Nat.le_trans hq9 hXz⟩
 case rest=>
 obtain ⟨a1,c1,a2,c2,hXO,hXP,hXR,hX1,hX2,hXB,hXu⟩:=hcut
 obtain ⟨X,hX⟩:∃X,X=wc:=⟨_,rfl⟩
 rw[←hX] at hXO hXP hXR hX1 hX2 hXB hXu⊢
 have HXO:=Hj hXO;have HXP:=Hj hXP;have HXR:=Hj hXR;have HX1:=Hj hX1;have HX2:=Hj hX2;have HXB:=Hj hXB
 clear hX wc hXO hXP hXR hX1 hX2 hXB HPu HOu HRu HIu HEu HI HE
 have p0:=Bj HXP.out 0 rfl
 have p1:=Bj HXP.out 1 rfl
 have p2:=Bj HXP.out 2 rfl
 have p3:=Bj HXP.out 3 rfl
 have p4:=Bj HXP.out 4 rfl
 have p5:=Bj HXP.out 5 rfl
 have p6:=Bj HXP.out 6 rfl
 go_wp2_with fail
 refine (HV.out _).mono ?_
 rintro e w3 ⟨rfl,hb3⟩
 have h3z:=hb3.size
 have HO3:=Hj ((hb3.block O (by omega)).trans HXO.out)
 have HP3:=Hj ((hb3.block P (by omega)).trans HXP.out)
 have HR3:=Hj ((hb3.block R (by omega)).trans HXR.out)
 have HI3:=Hj (own_below HX1.out hb3 (Nr _))
 have HE3:=Hj (own_below HX2.out hb3 (Nr _))
 have HB3:=Hj (HXB.out.trans (hb3.mono HXB.out.size))
 have h3u:u.heap.size≤w3.heap.size:=by omega
 clear hb3 p0 p1 p2 p3 p4 p5 p6
 clear HXO HXP HXR HX1 HX2 HXB
 have p0:=Bj HP3.out 0 rfl
 have p1:=Bj HP3.out 1 rfl
 have p2:=Bj HP3.out 2 rfl
 have p3:=Bj HP3.out 3 rfl
 have p4:=Bj HP3.out 4 rfl
 have p5:=Bj HP3.out 5 rfl
 have p6:=Bj HP3.out 6 rfl
 have o0:=Bj HO3.out 0 rfl
 have o1:=Bj HO3.out 1 rfl
 have o2:=Bj HO3.out 2 rfl
 have o3:=Bj HO3.out 3 rfl
 have o4:=Bj HO3.out 4 rfl
 have r0:=Bj HR3.out 0 rfl
 have r1:=Bj HR3.out 1 rfl
 have r2:=Bj HR3.out 2 rfl
 have r3:=Bj HR3.out 3 rfl
 have r4:=Bj HR3.out 4 rfl
 have f0:=Bf HR3.out 0
 have f1:=Bf HR3.out 1
 have f2:=Bf HR3.out 2
 have f3:=Bf HR3.out 3
 have f4:=Bf HR3.out 4
 cases hv:FP.ok ⟨pc,pn,pe,pk,ps,ppl,pm⟩
 ·have Hv:=Hj hv
  clear hv
  go_wp2
  obtain ⟨hR,hK⟩:=puts_at [(0,.int .i64 (en)),(1,.int .i64 (st)),(2,.int .i64 (er)),(3,(.slice a1 im.length c1)),(4,(.slice a2 ef.length c2))] HR3.out
  refine bodyPost_ret (results_c rfl _ _ _ _ _ _ _ rfl hR Tryz.underlying46 rfl (by kernel_rfl)) rfl ?_
  have hbel:=HB3.out.trans (hK.below HB3.out.size (G1 (by omega)))
  rw[show fout _ _ ⟨en,st,er,im,ef⟩=⟨en,st,er,im,ef⟩ from by unfold fout;exact if_pos (.inl Hv.out)]
  refine ⟨_,_,rfl, ?_, ?_, ?_⟩
  ·exact own_base (own_keep HI3.out hK (Ow HI3.out (by omega))) hwu
  ·exact own_base (own_keep HE3.out hK (Ow HE3.out (by omega))) hwu
  exact hbel
 have Hv:=Hj hv
 clear hv
 by_cases hx:pe=x
 ·subst hx
  go_upto_region 4 with (fail)
  obtain ⟨fb,hfb⟩:∃fb,fb=Oc.fine ⟨en,st,er,im,ef⟩:=⟨_,rfl⟩
  have Hfb:=Hj hfb
  clear hfb
  go_cut [7] from 28 to 36 (fun s wx=>s= .bool fb∧wx=w3)
  case first=>
   by_cases hen:en=0
   ·by_cases her:er=0
    ·subst hen her
     go_wp2
     go_meet
     case rel=>exact ⟨by rw[Hfb.out];simp[Oc.fine],rfl⟩
    subst hen
    go_wp2
    go_meet
    case rel=>exact ⟨by rw[Hfb.out];simp[Oc.fine,her],rfl⟩
   go_wp2
   go_meet
   case rel=>exact ⟨by rw[Hfb.out];simp[Oc.fine,hen],rfl⟩
  case rest=>
   obtain ⟨rfl,hw⟩:=hcut
   rw[hw]
   clear hw wc
   by_cases h1:1≤pk∧pk≤3∧ps<st
   ·obtain ⟨k1,k3,ks⟩:=h1
    obtain ⟨hs0,hs1⟩:=ok_step Hv.out k1 k3
    simp only at hs0 hs1
    by_cases q1:pk=1
    ·subst q1
     go_wp2
     obtain ⟨hR,hK⟩:=puts_at [(0,.int .i64 (1)),(1,.int .i64 (ps+1)),(2,.int .i64 (0)),(3,(.slice none 0 0)),(4,(.slice none 0 0))] HR3.out
     refine bodyPost_ret (results_c rfl _ _ _ _ _ _ _ rfl hR Tryz.underlying46 rfl (by kernel_rfl)) rfl ?_
     have hbel:=HB3.out.trans (hK.below HB3.out.size (G1 (by omega)))
     rw[show fout _ _ ⟨en,st,er,im,ef⟩=⟨1,ps+1,0,[],[]⟩ from by unfold fout;rw[if_neg (by simp[Hv.out]),if_pos (by simp;omega),if_pos rfl]]
     refine ⟨_,_,rfl, ?_, ?_, ?_⟩
     ·exact own_nil _ _ _ _ hbel.size
     ·exact own_nil _ _ _ _ hbel.size
     exact hbel
    by_cases q3:pk=3
    ·subst q3
     go_wp2
     obtain ⟨hR,hK⟩:=puts_at [(0,.int .i64 (3)),(1,.int .i64 (ps+1)),(2,.int .i64 (0)),(3,(.slice none 0 0)),(4,(.slice none 0 0))] HR3.out
     refine bodyPost_ret (results_c rfl _ _ _ _ _ _ _ rfl hR Tryz.underlying46 rfl (by kernel_rfl)) rfl ?_
     have hbel:=HB3.out.trans (hK.below HB3.out.size (G1 (by omega)))
     rw[show fout _ _ ⟨en,st,er,im,ef⟩=⟨3,ps+1,0,[],[]⟩ from by unfold fout;rw[if_neg (by simp[Hv.out]),if_pos (by simp;omega),if_neg (by simp),if_pos rfl]]
     refine ⟨_,_,rfl, ?_, ?_, ?_⟩
     ·exact own_nil _ _ _ _ hbel.size
     ·exact own_nil _ _ _ _ hbel.size
     exact hbel
    have q2:pk=2:=by omega
    subst q2
    go_wp2
    obtain ⟨hR,hK⟩:=puts_at [(0,.int .i64 (2)),(1,.int .i64 (4000)),(2,.int .i64 (0)),(3,(.slice none 0 0)),(4,(.slice none 0 0))] HR3.out
    refine bodyPost_ret (results_c rfl _ _ _ _ _ _ _ rfl hR Tryz.underlying46 rfl (by kernel_rfl)) rfl ?_
    have hbel:=HB3.out.trans (hK.below HB3.out.size (G1 (by omega)))
    rw[show fout _ _ ⟨en,st,er,im,ef⟩=⟨2,4000,0,[],[]⟩ from by unfold fout;rw[if_neg (by simp[Hv.out]),if_pos (by simp;omega),if_neg (by simp),if_neg (by simp)]]
    refine ⟨_,_,rfl, ?_, ?_, ?_⟩
    ·exact own_nil _ _ _ _ hbel.size
    ·exact own_nil _ _ _ _ hbel.size
    exact hbel
   by_cases q6:pk=6
   ·subst q6
    clear h1
    cases fb
    ·have hf:Oc.fine ⟨en,st,er,im,ef⟩=false:=Hfb.out.symm
     go_wp2
     obtain ⟨hR,hK⟩:=puts_at [(0,.int .i64 (en)),(1,.int .i64 (st)),(2,.int .i64 (er)),(3,(.slice a1 im.length c1)),(4,(.slice a2 ef.length c2))] HR3.out
     refine bodyPost_ret (results_c rfl _ _ _ _ _ _ _ rfl hR Tryz.underlying46 rfl (by kernel_rfl)) rfl ?_
     have hbel:=HB3.out.trans (hK.below HB3.out.size (G1 (by omega)))
     rw[show fout _ _ ⟨en,st,er,im,ef⟩=⟨en,st,er,im,ef⟩ from by unfold fout;rw[if_neg (by simp[Hv.out]),if_neg (by simp),if_neg (by simp[hf]),if_neg (by simp)]]
     refine ⟨_,_,rfl, ?_, ?_, ?_⟩
     ·exact own_base (own_keep HI3.out hK (Ow HI3.out (by omega))) hwu
     ·exact own_base (own_keep HE3.out hK (Ow HE3.out (by omega))) hwu
     exact hbel
    have hf:Oc.fine ⟨en,st,er,im,ef⟩=true:=Hfb.out.symm
    go_wp2_with fail
    refine (rchange_any [] _ im ppl pm w3 (by omega) (Bytes.row HI3.out rfl (fun f hf=>by cases hf))).mono ?_
    rintro e w4 ⟨v4,rfl,hown4,hb4⟩
    obtain ⟨a4,c4,rfl⟩:=Oq hown4
    have h4z:=hb4.size
    have hown4':w4.ownsRow u.heap.size 5 1 (.slice a4 im.length c4) im.length (bytesV (chg im ppl pm)):=own_base hown4 h3u
    have HOb4:=Hj ((hb4.block O (by omega)).trans HO3.out)
    have HR4:=Hj ((hb4.block R (by omega)).trans HR3.out)
    have HOt4:=Hj (own_below HE3.out hb4 (Nr _))
    have HB4:=Hj (HB3.out.trans (hb4.mono HB3.out.size))
    have HN4:=Hj hown4'
    clear hb4 hown4 hown4' p0 p1 p2 p3 p4 p5 p6 o0 o1 o2 o3 o4 r0 r1 r2 r3 r4 f0 f1 f2 f3 f4
    have o3:=Bj HOb4.out 3 rfl
    have g3:=Bf HOb4.out 3
    go_upto_region 15 with (fail)
    obtain ⟨X,hX⟩:∃X,X=w4.setCell ⟨O,3,none⟩ (.slice a4 im.length c4):=⟨_,rfl⟩
    rw[←hX]
    obtain ⟨hXO,hXK⟩:=puts_at [(3,.slice a4 im.length c4)] HOb4.out
    have eX:puts w4 O [(3,.slice a4 im.length c4)]=X:=hX.symm
    have hXz:=puts_size [(3,.slice a4 im.length c4)] w4 O
    rw[eX] at hXO hXK hXz
    have HXO:Hid (X.heap[O]? =some (.cells #[.int .i64 en,.int .i64 st,.int .i64 er,.slice a4 im.length c4,.slice a2 ef.length c2] 46 (0,0))):=Hj hXO
    have HXR:=Hj ((hXK.block R (by omega) (by simp;omega)).trans HR4.out)
    have HC4:=Hj (own_keep HN4.out hXK (Ow HN4.out (by omega)))
    have HD4:=Hj (own_keep HOt4.out hXK (Ow HOt4.out (by omega)))
    have HXB:Hid (Below w.heap.size w X):=Hj (HB4.out.trans (hXK.below HB4.out.size (G1 (by omega))))
    have hXu:u.heap.size≤X.heap.size:=by omega
    clear hX eX hXO hXK hXz o3 g3 HOb4 HR4 HOt4 HB4 HN4
    have o0:=Bj HXO.out 0 rfl
    have o1:=Bj HXO.out 1 rfl
    have o2:=Bj HXO.out 2 rfl
    have o3:=Bj HXO.out 3 rfl
    have o4:=Bj HXO.out 4 rfl
    have r0:=Bj HXR.out 0 rfl
    have r1:=Bj HXR.out 1 rfl
    have r2:=Bj HXR.out 2 rfl
    have r3:=Bj HXR.out 3 rfl
    have r4:=Bj HXR.out 4 rfl
    have f0:=Bf HXR.out 0
    have f1:=Bf HXR.out 1
    have f2:=Bf HXR.out 2
    have f3:=Bf HXR.out 3
    have f4:=Bf HXR.out 4
    go_wp2
    obtain ⟨hR,hK⟩:=puts_at [(0,.int .i64 (en)),(1,.int .i64 (st)),(2,.int .i64 (er)),(3,(.slice a4 im.length c4)),(4,(.slice a2 ef.length c2))] HXR.out
    refine bodyPost_ret (results_c rfl _ _ _ _ _ _ _ rfl hR Tryz.underlying46 rfl (by kernel_rfl)) rfl ?_
    have hbel:=HXB.out.trans (hK.below HXB.out.size (G1 (by omega)))
    rw[show fout _ _ ⟨en,st,er,im,ef⟩=⟨en,st,er,chg im ppl pm,ef⟩ from by unfold fout;rw[if_neg (by simp[Hv.out]),if_neg (by simp),if_pos ⟨rfl,hf⟩]]
    refine ⟨_,_,rfl, ?_, ?_, ?_⟩
    ·have hq:=own_base (own_keep HC4.out hK (Ow HC4.out (by omega))) hwu
     simp only[chg_len]
     exact hq
    ·exact own_base (own_keep HD4.out hK (Ow HD4.out (by omega))) hwu
    exact hbel
   by_cases q7:pk=7
   ·subst q7
    clear h1
    cases fb
    ·have hf:Oc.fine ⟨en,st,er,im,ef⟩=false:=Hfb.out.symm
     go_wp2
     obtain ⟨hR,hK⟩:=puts_at [(0,.int .i64 (en)),(1,.int .i64 (st)),(2,.int .i64 (er)),(3,(.slice a1 im.length c1)),(4,(.slice a2 ef.length c2))] HR3.out
     refine bodyPost_ret (results_c rfl _ _ _ _ _ _ _ rfl hR Tryz.underlying46 rfl (by kernel_rfl)) rfl ?_
     have hbel:=HB3.out.trans (hK.below HB3.out.size (G1 (by omega)))
     rw[show fout _ _ ⟨en,st,er,im,ef⟩=⟨en,st,er,im,ef⟩ from by unfold fout;rw[if_neg (by simp[Hv.out]),if_neg (by simp),if_neg (by simp),if_neg (by simp[hf])]]
     refine ⟨_,_,rfl, ?_, ?_, ?_⟩
     ·exact own_base (own_keep HI3.out hK (Ow HI3.out (by omega))) hwu
     ·exact own_base (own_keep HE3.out hK (Ow HE3.out (by omega))) hwu
     exact hbel
    have hf:Oc.fine ⟨en,st,er,im,ef⟩=true:=Hfb.out.symm
    go_wp2_with fail
    refine (rchange_any [] _ ef ppl pm w3 (by omega) (Bytes.row HE3.out rfl (fun f hf=>by cases hf))).mono ?_
    rintro e w4 ⟨v4,rfl,hown4,hb4⟩
    obtain ⟨a4,c4,rfl⟩:=Oq hown4
    have h4z:=hb4.size
    have hown4':w4.ownsRow u.heap.size 5 1 (.slice a4 ef.length c4) ef.length (bytesV (chg ef ppl pm)):=own_base hown4 h3u
    have HOb4:=Hj ((hb4.block O (by omega)).trans HO3.out)
    have HR4:=Hj ((hb4.block R (by omega)).trans HR3.out)
    have HOt4:=Hj (own_below HI3.out hb4 (Nr _))
    have HB4:=Hj (HB3.out.trans (hb4.mono HB3.out.size))
    have HN4:=Hj hown4'
    clear hb4 hown4 hown4' p0 p1 p2 p3 p4 p5 p6 o0 o1 o2 o3 o4 r0 r1 r2 r3 r4 f0 f1 f2 f3 f4
    have o4:=Bj HOb4.out 4 rfl
    have g4:=Bf HOb4.out 4
    go_upto_region 15 with (fail)
    obtain ⟨X,hX⟩:∃X,X=w4.setCell ⟨O,4,none⟩ (.slice a4 ef.length c4):=⟨_,rfl⟩
    rw[←hX]
    obtain ⟨hXO,hXK⟩:=puts_at [(4,.slice a4 ef.length c4)] HOb4.out
    have eX:puts w4 O [(4,.slice a4 ef.length c4)]=X:=hX.symm
    have hXz:=puts_size [(4,.slice a4 ef.length c4)] w4 O
    rw[eX] at hXO hXK hXz
    have HXO:Hid (X.heap[O]? =some (.cells #[.int .i64 en,.int .i64 st,.int .i64 er,.slice a1 im.length c1,.slice a4 ef.length c4] 46 (0,0))):=Hj hXO
    have HXR:=Hj ((hXK.block R (by omega) (by simp;omega)).trans HR4.out)
    have HC4:=Hj (own_keep HOt4.out hXK (Ow HOt4.out (by omega)))
    have HD4:=Hj (own_keep HN4.out hXK (Ow HN4.out (by omega)))
    have HXB:Hid (Below w.heap.size w X):=Hj (HB4.out.trans (hXK.below HB4.out.size (G1 (by omega))))
    have hXu:u.heap.size≤X.heap.size:=by omega
    clear hX eX hXO hXK hXz o4 g4 HOb4 HR4 HOt4 HB4 HN4
    have o0:=Bj HXO.out 0 rfl
    have o1:=Bj HXO.out 1 rfl
    have o2:=Bj HXO.out 2 rfl
    have o3:=Bj HXO.out 3 rfl
    have o4:=Bj HXO.out 4 rfl
    have r0:=Bj HXR.out 0 rfl
    have r1:=Bj HXR.out 1 rfl
    have r2:=Bj HXR.out 2 rfl
    have r3:=Bj HXR.out 3 rfl
    have r4:=Bj HXR.out 4 rfl
    have f0:=Bf HXR.out 0
    have f1:=Bf HXR.out 1
    have f2:=Bf HXR.out 2
    have f3:=Bf HXR.out 3
    have f4:=Bf HXR.out 4
    go_wp2
    obtain ⟨hR,hK⟩:=puts_at [(0,.int .i64 (en)),(1,.int .i64 (st)),(2,.int .i64 (er)),(3,(.slice a1 im.length c1)),(4,(.slice a4 ef.length c4))] HXR.out
    refine bodyPost_ret (results_c rfl _ _ _ _ _ _ _ rfl hR Tryz.underlying46 rfl (by kernel_rfl)) rfl ?_
    have hbel:=HXB.out.trans (hK.below HXB.out.size (G1 (by omega)))
    rw[show fout _ _ ⟨en,st,er,im,ef⟩=⟨en,st,er,im,chg ef ppl pm⟩ from by unfold fout;rw[if_neg (by simp[Hv.out]),if_neg (by simp),if_neg (by simp),if_pos ⟨rfl,hf⟩]]
    refine ⟨_,_,rfl, ?_, ?_, ?_⟩
    ·exact own_base (own_keep HC4.out hK (Ow HC4.out (by omega))) hwu
    ·have hq:=own_base (own_keep HD4.out hK (Ow HD4.out (by omega))) hwu
     simp only[chg_len]
     exact hq
    exact hbel
   have q6b:(pk==6)=false:=by simpa using q6
   have q7b:(pk==7)=false:=by simpa using q7
   rcases (by omega:(pk<1∨3<pk)∨(1≤pk∧pk≤3∧st≤ps)) with h | ⟨h,h',h''⟩
   ·have e1:(pk==1)=false:=by simp;omega
    have e2:(pk==2)=false:=by simp;omega
    have e3:(pk==3)=false:=by simp;omega
    clear h1
    go_wp2
    all_goals
     obtain ⟨hR,hK⟩:=puts_at [(0,.int .i64 (en)),(1,.int .i64 (st)),(2,.int .i64 (er)),(3,(.slice a1 im.length c1)),(4,(.slice a2 ef.length c2))] HR3.out
     refine bodyPost_ret (results_c rfl _ _ _ _ _ _ _ rfl hR Tryz.underlying46 rfl (by kernel_rfl)) rfl ?_
     have hbel:=HB3.out.trans (hK.below HB3.out.size (G1 (by omega)))
     rw[show fout _ _ ⟨en,st,er,im,ef⟩=⟨en,st,er,im,ef⟩ from by unfold fout;rw[if_neg (by simp[Hv.out]),if_neg (by simp;omega),if_neg (by simp;omega),if_neg (by simp;omega)]]
     refine ⟨_,_,rfl, ?_, ?_, ?_⟩
     ·exact own_base (own_keep HI3.out hK (Ow HI3.out (by omega))) hwu
     ·exact own_base (own_keep HE3.out hK (Ow HE3.out (by omega))) hwu
     exact hbel
   rcases (by omega:pk=1∨pk=2∨pk=3) with rfl | rfl | rfl
   ·clear h1 q6 q7 q6b q7b
    go_wp2
    all_goals
     obtain ⟨hR,hK⟩:=puts_at [(0,.int .i64 (en)),(1,.int .i64 (st)),(2,.int .i64 (er)),(3,(.slice a1 im.length c1)),(4,(.slice a2 ef.length c2))] HR3.out
     refine bodyPost_ret (results_c rfl _ _ _ _ _ _ _ rfl hR Tryz.underlying46 rfl (by kernel_rfl)) rfl ?_
     have hbel:=HB3.out.trans (hK.below HB3.out.size (G1 (by omega)))
     rw[show fout _ _ ⟨en,st,er,im,ef⟩=⟨en,st,er,im,ef⟩ from by unfold fout;rw[if_neg (by simp[Hv.out]),if_neg (by simp;omega),if_neg (by simp),if_neg (by simp)]]
     refine ⟨_,_,rfl, ?_, ?_, ?_⟩
     ·exact own_base (own_keep HI3.out hK (Ow HI3.out (by omega))) hwu
     ·exact own_base (own_keep HE3.out hK (Ow HE3.out (by omega))) hwu
     exact hbel
   ·clear h1 q6 q7 q6b q7b
    go_wp2
    all_goals
     obtain ⟨hR,hK⟩:=puts_at [(0,.int .i64 (en)),(1,.int .i64 (st)),(2,.int .i64 (er)),(3,(.slice a1 im.length c1)),(4,(.slice a2 ef.length c2))] HR3.out
     refine bodyPost_ret (results_c rfl _ _ _ _ _ _ _ rfl hR Tryz.underlying46 rfl (by kernel_rfl)) rfl ?_
     have hbel:=HB3.out.trans (hK.below HB3.out.size (G1 (by omega)))
     rw[show fout _ _ ⟨en,st,er,im,ef⟩=⟨en,st,er,im,ef⟩ from by unfold fout;rw[if_neg (by simp[Hv.out]),if_neg (by simp;omega),if_neg (by simp),if_neg (by simp)]]
     refine ⟨_,_,rfl, ?_, ?_, ?_⟩
     ·exact own_base (own_keep HI3.out hK (Ow HI3.out (by omega))) hwu
     ·exact own_base (own_keep HE3.out hK (Ow HE3.out (by omega))) hwu
     exact hbel
   clear h1 q6 q7 q6b q7b
   go_wp2
   all_goals
    obtain ⟨hR,hK⟩:=puts_at [(0,.int .i64 (en)),(1,.int .i64 (st)),(2,.int .i64 (er)),(3,(.slice a1 im.length c1)),(4,(.slice a2 ef.length c2))] HR3.out
    refine bodyPost_ret (results_c rfl _ _ _ _ _ _ _ rfl hR Tryz.underlying46 rfl (by kernel_rfl)) rfl ?_
    have hbel:=HB3.out.trans (hK.below HB3.out.size (G1 (by omega)))
    rw[show fout _ _ ⟨en,st,er,im,ef⟩=⟨en,st,er,im,ef⟩ from by unfold fout;rw[if_neg (by simp[Hv.out]),if_neg (by simp;omega),if_neg (by simp),if_neg (by simp)]]
    refine ⟨_,_,rfl, ?_, ?_, ?_⟩
    ·exact own_base (own_keep HI3.out hK (Ow HI3.out (by omega))) hwu
    ·exact own_base (own_keep HE3.out hK (Ow HE3.out (by omega))) hwu
    exact hbel
 have Hx:=Hj hx
 have hxb:(pe != x)=true:=by simpa using hx
 go_wp2
 obtain ⟨hR,hK⟩:=puts_at [(0,.int .i64 (en)),(1,.int .i64 (st)),(2,.int .i64 (er)),(3,(.slice a1 im.length c1)),(4,(.slice a2 ef.length c2))] HR3.out
 refine bodyPost_ret (results_c rfl _ _ _ _ _ _ _ rfl hR Tryz.underlying46 rfl (by kernel_rfl)) rfl ?_
 have hbel:=HB3.out.trans (hK.below HB3.out.size (G1 (by omega)))
 rw[show fout _ _ ⟨en,st,er,im,ef⟩=⟨en,st,er,im,ef⟩ from by unfold fout;exact if_pos (.inr Hx.out)]
 refine ⟨_,_,rfl, ?_, ?_, ?_⟩
 ·exact own_base (own_keep HI3.out hK (Ow HI3.out (by omega))) hwu
 ·exact own_base (own_keep HE3.out hK (Ow HE3.out (by omega))) hwu
 exact hbel
end Go.Proofs.YtipiofgdjbogiaaGreat
