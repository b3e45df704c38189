/- the references' changes, inputs, judgement; From, Equal -/
import Derived.Test.YtipiofgdjbogiaaGreatYa
import Derived.Test.YtipiofgdjbogiaaGreatQc
import Derived.Test.YtipiofgdjbogiaaGreatHh
set_option maxRecDepth 100000
set_option maxHeartbeats 4000000
namespace Go.Proofs.YtipiofgdjbogiaaGreat
open Go.Txt Go.RowKit Go.Bs Go.Cl Go.Rw Go.Un Go.Im Go.Fa
theorem rchange_any (F:List Nat) (v:Value) (b:List UInt8) (pl m:Int) (w:World) (hl:b.length≤24000) (hB:Bytes F w v b):
  Calls Tryz.prog 96 #[v,.int .i64 pl,.int .i64 m] w fun e w'=>∃x,e= .returned x∧w'.ownsRow w.heap.size 5 1 x b.length (bytesV (chg b pl m))∧Below w.heap.size w w':=by
 have HB:=Hj hB
 obtain ⟨ba,bc,rfl⟩:=Rs hB
 have HX:=Hj (Raw.alloc hB (.cells #[] 5))
 clear hB
 have HE:=Hj (own_empty w w.heap.size 5 1 (Nr _))
 have HL:=Hj ((Br w.heap.size w).alloc (Nr _) (.cells #[] 5))
 have hq:w.heap.size≤(w.alloc (.cells #[] 5)).heap.size:=HL.out.size
 go_enter Tryz.func96,Tryz.ntmps96
 go_wp2_with (at_builtin;refine wpList_appF el22 Tryz.underlying22 HE.out HX.out HL.out rfl _ _ rfl rfl rfl ?c3 (Nr _) ?c5 ?_)
 case c3=>omega
 case c5=>omega
 intro v1 w1 hown hb _ _
 have hown:w1.ownsRow w.heap.size 5 1 v1 b.length (bytesV b):=by simpa using hown
 clear hq
 rcases own_cases hown with ⟨rfl,hn,hx⟩ | ⟨g,cap,rfl,hg,hgl,hnc⟩
 ·have h0:b=[]:=List.length_eq_zero_iff.1 hn
  subst h0
  have HO:=Hj hown;have HB1:=Hj hb
  clear hown hb
  go_wp2
  go_ret
  exact ⟨_,rfl,by simpa[chg] using HO.out,HB1.out⟩
 have HO:=Hj hown;have HB1:=Hj hb
 clear hown hb
 by_cases hn0:b.length=0
 ·have h0:b=[]:=List.length_eq_zero_iff.1 hn0
  subst h0
  go_wp2
  go_ret
  exact ⟨_,rfl,by simpa[chg] using HO.out,HB1.out⟩
 have hn1:0<b.length:=by omega
 obtain ⟨n,hn⟩:∃n:Int,n=b.length:=⟨_,rfl⟩
 by_cases hp:0≤pl
 ·have hj0:0≤pl%(b.length:Int):=Int.emod_nonneg _ (by omega)
  have hj1:pl%(b.length:Int)<b.length:=Int.emod_lt_of_pos _ (by omega)
  obtain ⟨j,hj⟩:∃j:Nat,pl%(b.length:Int)=j:=⟨_,(Int.toNat_of_nonneg hj0).symm⟩
  have hjl:j<b.length:=by omega
  have hjt:(pl%(b.length:Int)).toNat=j:=by omega
  have hjm:pl.toNat%b.length=j:=by
   have h1:((pl.toNat%b.length:Nat):Int)=pl%(b.length:Int):=by
    rw[Int.natCast_emod,Int.toNat_of_nonneg hp]
   omega
  have hx:(bytesV b)[j]? =some (byteV (b[j]'hjl)):=by unfold bytesV;rw[List.getElem?_map,List.getElem?_eq_getElem hjl];rfl
  have cj:=own_cell HO.out rfl hx
  have fj:=own_frozen HO.out j
  obtain ⟨x0,hx0⟩:∃x0,x0=b[j]'hjl:=⟨_,rfl⟩
  rw[←hx0] at cj
  unfold byteV at cj
  go_wp2
  go_ret
  refine ⟨_,rfl, ?_,HB1.out.setCell hg _⟩
  have hs:=own_set HO.out (j:=j) (u:= .int .u8 (bits BinOp.xor IntKind.u8 (↑(b[j]'hjl).toNat) (m%256))) (by simp[bytesV];exact hjl)
  rw[xor_u8] at hs
  have he:bytesV (chg b pl m)=(bytesV b).set j (.int .u8 ((b[j]'hjl^^^UInt8.ofNat (m%256).toNat).toNat:Nat)):=by
   rw[show chg b pl m=b.modify (pl.toNat%b.length) (fun x=>x^^^UInt8.ofNat (m%256).toNat) from if_pos ⟨hn1,hp⟩,hjm]
   unfold bytesV
   apply List.ext_getElem?
   intro i
   rw[List.getElem?_map,List.getElem?_modify,List.getElem?_set,List.getElem?_map,List.length_map]
   by_cases hi:j=i
   ·subst hi
    rw[List.getElem?_eq_getElem hjl,if_pos rfl,if_pos hjl]
    simp[byteV]
   rw[if_neg hi]
   simp[hi]
  rw[he,←xor_u8]
  rw[←xor_u8] at hs
  exact hs
 go_wp2
 go_ret
 refine ⟨_,rfl, ?_,HB1.out⟩
 show World.ownsRow _ _ _ _ (.slice (some ⟨g,0,none⟩) b.length cap) _ _
 exact (by rw[show chg b pl m=b from if_neg (fun h=>absurd h.2 (by omega))];exact HO.out)
theorem rinput_any (F:List Nat) (p:FP) (y:Int) (im ms:List UInt8) (iv mv:Value) (w:World) (hil:im.length≤24000) (hml:ms.length≤24000) (hI:Bytes F w iv im) (hM:Bytes F w mv ms):
  Calls Tryz.prog 40 #[.agg p.cs,.int .i64 y,iv,mv] w fun e w'=>∃v1 v2,e= .returned (.tuple #[v1,v2])∧
   w'.ownsRow w.heap.size 5 1 v1 (finp p y im ms).1.length (bytesV (finp p y im ms).1)∧w'.ownsRow w.heap.size 5 1 v2 (finp p y im ms).2.length (bytesV (finp p y im ms).2)∧Below w.heap.size w w':=by
 have HV:=Hj (rvalid27_any p)
 obtain ⟨pc,pn,pe,pk,ps,ppl,pm⟩:=p
 obtain ⟨ia,ic,rfl⟩:=Rs hI
 obtain ⟨ma,mc,rfl⟩:=Rs hM
 simp only[FP.cs] at HV⊢
 obtain ⟨u,hu⟩:∃u,u=w.alloc (.cells #[.int .i64 pc,.int .i64 pn,.int .i64 pe,.int .i64 pk,.int .i64 ps,.int .i64 ppl,.int .i64 pm] 41):=⟨_,rfl⟩
 have HU:=Hj hu
 have HPu:Hid (u.heap[w.heap.size]? =some (.cells #[.int .i64 pc,.int .i64 pn,.int .i64 pe,.int .i64 pk,.int .i64 ps,.int .i64 ppl,.int .i64 pm] 41 (0,0))):=Hj (by rw[hu];exact heap_alloc_new w _)
 have hbu:Below w.heap.size w u:=by rw[hu];exact (Br _ w).alloc (Nr _) _
 have HBu:=Hj hbu
 have HI:=Hj (Raw.alloc (Rb hI hbu) (.cells #[] 5));have HM:=Hj (Rb hM hbu)
 have hwu:=hbu.size
 clear hu hI hM hbu
 go_enter Tryz.func40,Tryz.ntmps40
 go_upto_region 1 with (fail)
 rw[←HU.out]
 obtain ⟨P,hP⟩:∃P,P=w.heap.size:=⟨_,rfl⟩
 rw[←hP]
 rw[←hP] at HPu
 have hPu:P<u.heap.size:=(Al HPu.out)
 clear hP HU
 have HE:=Hj (own_empty u u.heap.size 5 1 (Nr _))
 have HL:=Hj ((Br u.heap.size u).alloc (Nr _) (.cells #[] 5))
 have hq:u.heap.size≤(u.alloc (.cells #[] 5)).heap.size:=HL.out.size
 go_wp2_with (at_builtin;refine wpList_appF el22 Tryz.underlying22 HE.out HI.out HL.out rfl _ _ rfl rfl rfl ?c3 (Nr _) ?c5 ?_)
 case c3=>omega
 case c5=>omega
 intro v1 w1 hown hb _ _
 obtain ⟨a1,c1,rfl⟩:=Oq hown
 have hown1:w1.ownsRow u.heap.size 5 1 (.slice a1 im.length c1) im.length (bytesV im):=by simpa using hown
 have hq1:=hb.size
 have HO1:=Hj hown1
 have HB1:=Hj hb
 clear hown hb hown1 hq HE HL
 have HE:=Hj (own_empty w1 u.heap.size 5 1 hq1)
 have HL:=Hj (HB1.out.alloc hq1 (.cells #[] 5))
 have HX:=Hj (Rb HM.out HL.out)
 have hq:u.heap.size≤(w1.alloc (.cells #[] 5)).heap.size:=HL.out.size
 go_wp2_with (at_builtin;refine wpList_appF el22 Tryz.underlying22 HE.out HX.out HL.out rfl _ _ rfl rfl rfl ?c3 (Nr _) ?c5 ?_)
 case c3=>omega
 case c5=>omega
 intro v2 w2 hown hb hk _
 obtain ⟨a2,c2,rfl⟩:=Oq hown
 have HE2:Hid (w2.ownsRow u.heap.size 5 1 (.slice a2 ms.length c2) ms.length (bytesV ms)):=Hj (by simpa using hown)
 have HI2:=Hj (own_keep (own_below HO1.out ((Br w1.heap.size w1).alloc (Nr _) (.cells #[] 5)) (Nr _)) hk (fun r hr hm=>by have:=(HO1.out.lt r hr).2;simp[Value.ownBlock] at hm;omega))
 have hq2:=hb.size
 have hp2:=(hb.block P (by omega)).trans HPu.out
 have HB2:=Hj (HBu.out.trans (hb.mono HBu.out.size))
 have HP2:=Hj hp2
 clear hown hb hk hp2 hq HE HL HX HO1 HB1 hq1
 have p0:=Bj HP2.out 0 rfl
 have p1:=Bj HP2.out 1 rfl
 have p2:=Bj HP2.out 2 rfl
 have p3:=Bj HP2.out 3 rfl
 have p4:=Bj HP2.out 4 rfl
 have p5:=Bj HP2.out 5 rfl
 have p6:=Bj HP2.out 6 rfl
 go_wp2_with fail
 refine (HV.out _).mono ?_
 rintro e w3 ⟨rfl,hb3⟩
 have HP3:=Hj ((hb3.block P (by omega)).trans HP2.out)
 have HI3:=Hj (own_below HI2.out hb3 (Nr _))
 have HE3:=Hj (own_below HE2.out hb3 (Nr _))
 have HB3:=Hj (HB2.out.trans (hb3.mono HB2.out.size))
 have hq3:=hb3.size
 have hwz:=HB3.out.size
 clear hb3 HP2 HI2 HE2 HB2
 clear p0 p1 p2 p3 p4 p5 p6
 have p0:=Bj HP3.out 0 rfl
 have p1:=Bj HP3.out 1 rfl
 have p2:=Bj HP3.out 2 rfl
 have p3:=Bj HP3.out 3 rfl
 have p4:=Bj HP3.out 4 rfl
 have p5:=Bj HP3.out 5 rfl
 have p6:=Bj HP3.out 6 rfl
 cases hv:FP.ok ⟨pc,pn,pe,pk,ps,ppl,pm⟩
 ·have HFI:=Hj (finp_bad (y:=y) (im:=im) (ms:=ms) hv)
  clear hv
  go_wp2
  refine bodyPost_ret (results_tmp2 rfl _ _ _) rfl ?_
  rw[HFI.out]
  exact ⟨_,_,rfl,own_base HI3.out hwu,own_base HE3.out hwu,HB3.out⟩
 by_cases hx:pe=y
 ·have hfi:finp ⟨pc,pn,pe,pk,ps,ppl,pm⟩ y im ms=((if pk=4 then chg im ppl pm else im),(if pk=5 then chg ms ppl pm else ms)):=by
   unfold finp;rw[if_pos ⟨hv,hx⟩]
  subst hx
  clear hv
  by_cases h4:pk=4
  ·subst h4
   have HFI:=Hj hfi
   clear hfi
   rw[if_pos rfl,if_neg (by decide)] at HFI
   go_wp2_with fail
   refine (rchange_any [] _ im ppl pm w3 (by omega) (Bytes.row HI3.out rfl (fun f hf=>by cases hf))).mono ?_
   rintro e w4 ⟨v4,rfl,hown4,hb4⟩
   obtain ⟨a4,c4,rfl⟩:=Oq hown4
   have HN4:=Hj hown4
   have HB34:=Hj hb4
   have hp4:=(hb4.block P (by omega)).trans HP3.out
   clear hown4 hb4
   clear p0 p1 p2 p3 p4 p5 p6
   have p0:=Bj hp4 0 rfl
   have p1:=Bj hp4 1 rfl
   have p2:=Bj hp4 2 rfl
   have p3:=Bj hp4 3 rfl
   have p4:=Bj hp4 4 rfl
   have p5:=Bj hp4 5 rfl
   have p6:=Bj hp4 6 rfl
   clear hp4
   go_wp2
   refine bodyPost_ret (results_tmp2 rfl _ _ _) rfl ?_
   rw[HFI.out]
   exact ⟨_,_,rfl,by have h:=own_base HN4.out hwz;first | exact h | (rw[chg_len];exact h),by have h:=own_base (own_below HE3.out HB34.out (Nr _)) hwu;first | exact h | (rw[chg_len];exact h),HB3.out.trans (HB34.out.mono HB3.out.size)⟩
  by_cases h5:pk=5
  ·subst h5
   have HFI:=Hj hfi
   clear hfi
   rw[if_neg (by decide),if_pos rfl] at HFI
   go_wp2_with fail
   refine (rchange_any [] _ ms ppl pm w3 (by omega) (Bytes.row HE3.out rfl (fun f hf=>by cases hf))).mono ?_
   rintro e w4 ⟨v4,rfl,hown4,hb4⟩
   obtain ⟨a4,c4,rfl⟩:=Oq hown4
   have HN4:=Hj hown4
   have HB34:=Hj hb4
   have hp4:=(hb4.block P (by omega)).trans HP3.out
   clear hown4 hb4
   clear p0 p1 p2 p3 p4 p5 p6
   have p0:=Bj hp4 0 rfl
   have p1:=Bj hp4 1 rfl
   have p2:=Bj hp4 2 rfl
   have p3:=Bj hp4 3 rfl
   have p4:=Bj hp4 4 rfl
   have p5:=Bj hp4 5 rfl
   have p6:=Bj hp4 6 rfl
   clear hp4
   go_wp2
   refine bodyPost_ret (results_tmp2 rfl _ _ _) rfl ?_
   rw[HFI.out]
   exact ⟨_,_,rfl,by have h:=own_base (own_below HI3.out HB34.out (Nr _)) hwu;first | exact h | (rw[chg_len];exact h),by have h:=own_base HN4.out hwz;first | exact h | (rw[chg_len];exact h),HB3.out.trans (HB34.out.mono HB3.out.size)⟩
  have HFI:=Hj hfi
  clear hfi
  rw[if_neg h4,if_neg h5] at HFI
  have e4:(pk==4)=false:=by simpa using h4
  have e5:(pk==5)=false:=by simpa using h5
  clear h4 h5
  go_wp2
  refine bodyPost_ret (results_tmp2 rfl _ _ _) rfl ?_
  rw[HFI.out]
  exact ⟨_,_,rfl,own_base HI3.out hwu,own_base HE3.out hwu,HB3.out⟩
 have HFI:=Hj (finp_other (p:=⟨pc,pn,pe,pk,ps,ppl,pm⟩) (im:=im) (ms:=ms) hx)
 have ex:(pe != y)=true:=by simpa using hx
 clear hv
 go_wp2
 refine bodyPost_ret (results_tmp2 rfl _ _ _) rfl ?_
 rw[HFI.out]
 exact ⟨_,_,rfl,own_base HI3.out hwu,own_base HE3.out hwu,HB3.out⟩
theorem rfailed_any (o:Oc) (iv ev:Value) (w:World):Calls Tryz.prog 138 #[.agg #[.int .i64 o.en,.int .i64 o.st,.int .i64 o.er,iv,ev]] w fun e w'=>e= .returned (.bool (o.bad))∧Below w.heap.size w w':=by
 obtain ⟨en,st,er,im,ef⟩:=o
 simp only
 by_cases h1:en=1
 ·subst h1
  go_enter Tryz.func138,Tryz.ntmps138
  go_wp2
  go_ret
  exact ⟨ret_bool (by simp[Oc.bad]),(Br _ w).alloc (Nr _) _⟩
 by_cases h0:en=0
 ·subst h0
  by_cases hr:er=0
  ·subst hr
   go_enter Tryz.func138,Tryz.ntmps138
   go_wp2
   go_ret
   exact ⟨ret_bool (by simp[Oc.bad]),(Br _ w).alloc (Nr _) _⟩
  have hb:(er != 0)=true:=by simpa using hr
  go_enter Tryz.func138,Tryz.ntmps138
  go_wp2
  go_ret
  exact ⟨ret_bool (by simp[Oc.bad,hr]),(Br _ w).alloc (Nr _) _⟩
 have e0:(en==0)=false:=by simpa using h0
 have e1:(en==1)=false:=by simpa using h1
 go_enter Tryz.func138,Tryz.ntmps138
 go_wp2
 go_ret
 exact ⟨ret_bool (by simp[Oc.bad,h0,h1]),(Br _ w).alloc (Nr _) _⟩
theorem rlate_any (o:Oc) (iv ev:Value) (w:World):Calls Tryz.prog 139 #[.agg #[.int .i64 o.en,.int .i64 o.st,.int .i64 o.er,iv,ev]] w fun e w'=>e= .returned (.bool (o.late))∧Below w.heap.size w w':=by
 obtain ⟨en,st,er,im,ef⟩:=o
 simp only
 by_cases h1:en=2
 ·subst h1
  go_enter Tryz.func139,Tryz.ntmps139
  go_wp2
  go_ret
  exact ⟨ret_bool (by simp[Oc.late]),(Br _ w).alloc (Nr _) _⟩
 by_cases h0:en=0
 ·subst h0
  by_cases hr:4000<st
  ·skip
   go_enter Tryz.func139,Tryz.ntmps139
   go_wp2
   go_ret
   exact ⟨ret_bool (by simp[Oc.late,hr]),(Br _ w).alloc (Nr _) _⟩
  skip
  go_enter Tryz.func139,Tryz.ntmps139
  go_wp2
  go_ret
  exact ⟨ret_bool (by simp[Oc.late];omega),(Br _ w).alloc (Nr _) _⟩
 have e0:(en==0)=false:=by simpa using h0
 have e1:(en==2)=false:=by simpa using h1
 go_enter Tryz.func139,Tryz.ntmps139
 go_wp2
 go_ret
 exact ⟨ret_bool (by simp[Oc.late,h0,h1]),(Br _ w).alloc (Nr _) _⟩
theorem rcause_any (a b:Oc) (i1 e1 i2 e2:Value) (pm:Bool) (w:World) (hI1:Bytes [] w i1 a.im) (hE1:Bytes [] w e1 a.ef) (hI2:Bytes [] w i2 b.im) (hE2:Bytes [] w e2 b.ef):
  Calls Tryz.prog 110 #[.agg #[.int .i64 a.en,.int .i64 a.st,.int .i64 a.er,i1,e1],.agg #[.int .i64 b.en,.int .i64 b.st,.int .i64 b.er,i2,e2],.bool pm] w fun r w'=>r= .returned (.int .i64 (judge a b pm))∧Below w.heap.size w w':=by
 obtain ⟨ai,ac,rfl⟩:=Rs hI1
 obtain ⟨ae,aec,rfl⟩:=Rs hE1
 obtain ⟨bi,bc,rfl⟩:=Rs hI2
 obtain ⟨be,bec,rfl⟩:=Rs hE2
 obtain ⟨w0,hu⟩:∃u,u=(w.alloc (.cells #[.int .i64 a.en,.int .i64 a.st,.int .i64 a.er,(.slice ai a.im.length ac),(.slice ae a.ef.length aec)] 46)).alloc (.cells #[.int .i64 b.en,.int .i64 b.st,.int .i64 b.er,(.slice bi b.im.length bc),(.slice be b.ef.length bec)] 46):=⟨_,rfl⟩
 have HU:=Hj hu
 have hb0:Below w.heap.size w w0:=by rw[hu];exact ((Br _ w).alloc (Nr _) _).alloc (by simp) _
 have HL0:=Hj hb0
 have HA0:Hid (w0.heap[w.heap.size]? =some (.cells #[.int .i64 a.en,.int .i64 a.st,.int .i64 a.er,(.slice ai a.im.length ac),(.slice ae a.ef.length aec)] 46 (0,0))):=Hj (by rw[hu];exact a2_0 w _ _)
 have HB0:Hid (w0.heap[w.heap.size+1]? =some (.cells #[.int .i64 b.en,.int .i64 b.st,.int .i64 b.er,(.slice bi b.im.length bc),(.slice be b.ef.length bec)] 46 (0,0))):=Hj (by rw[hu];exact a2_1 w _ _)
 have HI1:=Hj (Rb hI1 hb0);have HE1:=Hj (Rb hE1 hb0);have HI2:=Hj (Rb hI2 hb0);have HE2:=Hj (Rb hE2 hb0)
 clear hI1 hE1 hI2 hE2 hu hb0
 go_enter Tryz.func110,Tryz.ntmps110
 go_upto_region 1 with (fail)
 rw[←HU.out]
 obtain ⟨A,hA⟩:∃A,A=w.heap.size:=⟨_,rfl⟩
 obtain ⟨B,hB⟩:∃B,B=w.heap.size+1:=⟨_,rfl⟩
 rw[←hB,←hA]
 rw[←hA] at HA0;rw[←hB] at HB0
 have hAl:A<w0.heap.size:=(Al HA0.out)
 have hBl:B<w0.heap.size:=(Al HB0.out)
 clear hA hB HU
 have a0:=Bj HA0.out 0 rfl
 have a1:=Bj HA0.out 1 rfl
 have a2:=Bj HA0.out 2 rfl
 have a3:=Bj HA0.out 3 rfl
 have a4:=Bj HA0.out 4 rfl
 have b0:=Bj HB0.out 0 rfl
 have b1:=Bj HB0.out 1 rfl
 have b2:=Bj HB0.out 2 rfl
 have b3:=Bj HB0.out 3 rfl
 have b4:=Bj HB0.out 4 rfl
 go_wp2_with fail
 refine (rfailed_any a _ _ _).mono ?_
 rintro e w1 ⟨rfl,hb1⟩
 have HL1:=Hj (HL0.out.trans (hb1.mono HL0.out.size))
 have HA1:=Hj ((hb1.block A hAl).trans HA0.out)
 have HB1:=Hj ((hb1.block B hBl).trans HB0.out)
 have HI1:=Hj (Rb HI1.out hb1);have HE1:=Hj (Rb HE1.out hb1);have HI2:=Hj (Rb HI2.out hb1);have HE2:=Hj (Rb HE2.out hb1)
 have hAl:A<w1.heap.size:=by have:=hb1.size;omega
 have hBl:B<w1.heap.size:=by have:=hb1.size;omega
 clear hb1 a0 a1 a2 a3 a4 b0 b1 b2 b3 b4
 have a0:=Bj HA1.out 0 rfl
 have a1:=Bj HA1.out 1 rfl
 have a2:=Bj HA1.out 2 rfl
 have a3:=Bj HA1.out 3 rfl
 have a4:=Bj HA1.out 4 rfl
 have b0:=Bj HB1.out 0 rfl
 have b1:=Bj HB1.out 1 rfl
 have b2:=Bj HB1.out 2 rfl
 have b3:=Bj HB1.out 3 rfl
 have b4:=Bj HB1.out 4 rfl
 cases hf1:a.bad
 rotate_left
 ·have HF:=Hj hf1
  clear hf1
  go_wp2
  go_ret
  exact ⟨ret_int (by unfold judge;rw[if_pos (by simp[HF.out])]),HL1.out⟩
 have HF1:=Hj hf1
 clear hf1
 go_wp2_with fail
 refine (rfailed_any b _ _ _).mono ?_
 rintro e w2 ⟨rfl,hb2⟩
 have HL2:=Hj (HL1.out.trans (hb2.mono HL1.out.size))
 have HA2:=Hj ((hb2.block A hAl).trans HA1.out)
 have HB2:=Hj ((hb2.block B hBl).trans HB1.out)
 have HI1:=Hj (Rb HI1.out hb2);have HE1:=Hj (Rb HE1.out hb2);have HI2:=Hj (Rb HI2.out hb2);have HE2:=Hj (Rb HE2.out hb2)
 have hAl:A<w2.heap.size:=by have:=hb2.size;omega
 have hBl:B<w2.heap.size:=by have:=hb2.size;omega
 clear hb2 a0 a1 a2 a3 a4 b0 b1 b2 b3 b4
 have a0:=Bj HA2.out 0 rfl
 have a1:=Bj HA2.out 1 rfl
 have a2:=Bj HA2.out 2 rfl
 have a3:=Bj HA2.out 3 rfl
 have a4:=Bj HA2.out 4 rfl
 have b0:=Bj HB2.out 0 rfl
 have b1:=Bj HB2.out 1 rfl
 have b2:=Bj HB2.out 2 rfl
 have b3:=Bj HB2.out 3 rfl
 have b4:=Bj HB2.out 4 rfl
 cases hf2:b.bad
 rotate_left
 ·have HF:=Hj hf2
  clear hf2
  go_wp2
  go_ret
  exact ⟨ret_int (by unfold judge;rw[if_pos (by simp[HF.out])]),HL2.out⟩
 have HF2:=Hj hf2
 clear hf2
 go_wp2_with fail
 refine (rlate_any a _ _ _).mono ?_
 rintro e w3 ⟨rfl,hb3⟩
 have HL3:=Hj (HL2.out.trans (hb3.mono HL2.out.size))
 have HA3:=Hj ((hb3.block A hAl).trans HA2.out)
 have HB3:=Hj ((hb3.block B hBl).trans HB2.out)
 have HI1:=Hj (Rb HI1.out hb3);have HE1:=Hj (Rb HE1.out hb3);have HI2:=Hj (Rb HI2.out hb3);have HE2:=Hj (Rb HE2.out hb3)
 have hAl:A<w3.heap.size:=by have:=hb3.size;omega
 have hBl:B<w3.heap.size:=by have:=hb3.size;omega
 clear hb3 a0 a1 a2 a3 a4 b0 b1 b2 b3 b4
 have a0:=Bj HA3.out 0 rfl
 have a1:=Bj HA3.out 1 rfl
 have a2:=Bj HA3.out 2 rfl
 have a3:=Bj HA3.out 3 rfl
 have a4:=Bj HA3.out 4 rfl
 have b0:=Bj HB3.out 0 rfl
 have b1:=Bj HB3.out 1 rfl
 have b2:=Bj HB3.out 2 rfl
 have b3:=Bj HB3.out 3 rfl
 have b4:=Bj HB3.out 4 rfl
 cases hf1:a.late
 rotate_left
 ·have HF:=Hj hf1
  clear hf1
  go_wp2
  go_ret
  exact ⟨ret_int (by unfold judge;rw[if_neg (by simp[HF1.out,HF2.out]),if_pos (by simp[HF.out])]),HL3.out⟩
 have HT1:=Hj hf1
 clear hf1
 go_wp2_with fail
 refine (rlate_any b _ _ _).mono ?_
 rintro e w4 ⟨rfl,hb4⟩
 have HL4:=Hj (HL3.out.trans (hb4.mono HL3.out.size))
 have HA4:=Hj ((hb4.block A hAl).trans HA3.out)
 have HB4:=Hj ((hb4.block B hBl).trans HB3.out)
 have HI1:=Hj (Rb HI1.out hb4);have HE1:=Hj (Rb HE1.out hb4);have HI2:=Hj (Rb HI2.out hb4);have HE2:=Hj (Rb HE2.out hb4)
 have hAl:A<w4.heap.size:=by have:=hb4.size;omega
 have hBl:B<w4.heap.size:=by have:=hb4.size;omega
 clear hb4 a0 a1 a2 a3 a4 b0 b1 b2 b3 b4
 have a0:=Bj HA4.out 0 rfl
 have a1:=Bj HA4.out 1 rfl
 have a2:=Bj HA4.out 2 rfl
 have a3:=Bj HA4.out 3 rfl
 have a4:=Bj HA4.out 4 rfl
 have b0:=Bj HB4.out 0 rfl
 have b1:=Bj HB4.out 1 rfl
 have b2:=Bj HB4.out 2 rfl
 have b3:=Bj HB4.out 3 rfl
 have b4:=Bj HB4.out 4 rfl
 cases hf2:b.late
 rotate_left
 ·have HF:=Hj hf2
  clear hf2
  go_wp2
  go_ret
  exact ⟨ret_int (by unfold judge;rw[if_neg (by simp[HF1.out,HF2.out]),if_pos (by simp[HF.out])]),HL4.out⟩
 have HT2:=Hj hf2
 clear hf2
 by_cases ht:(a.touch || b.touch)=true
 ·have HT:=Hj ht
  by_cases t1:a.en=3
  ·have q1:(a.en==3)=true:=by simpa using t1
   clear ht t1
   go_wp2
   go_ret
   exact ⟨ret_int (by unfold judge;rw[if_neg (by simp[HF1.out,HF2.out]),if_neg (by simp[HT1.out,HT2.out]),if_pos HT.out]),HL4.out⟩
  have q1:(a.en==3)=false:=by simpa using t1
  have q2:(b.en==3)=true:=by simp[Oc.touch,t1] at ht;simpa using ht
  clear ht t1
  go_wp2
  go_ret
  exact ⟨ret_int (by unfold judge;rw[if_neg (by simp[HF1.out,HF2.out]),if_neg (by simp[HT1.out,HT2.out]),if_pos HT.out]),HL4.out⟩
 have HT:=Hj ht
 have q1:(a.en==3)=false:=by simp[Oc.touch] at ht;simpa using ht.1
 have q2:(b.en==3)=false:=by simp[Oc.touch] at ht;simpa using ht.2
 clear ht
 cases pm
 ·skip
  go_wp2
  go_ret
  exact ⟨ret_int (by unfold judge;rw[if_neg (by simp[HF1.out,HF2.out]),if_neg (by simp[HT1.out,HT2.out]),if_neg HT.out,if_pos rfl]),HL4.out⟩
 have s1:=run_str (P:=Tryz.prog) HI1.out 22 5 9 Tryz.underlying22 Tryz.underlying5 Tryz.underlying9
 have s2:=run_str (P:=Tryz.prog) HI2.out 22 5 9 Tryz.underlying22 Tryz.underlying5 Tryz.underlying9
 have s3:=run_str (P:=Tryz.prog) HE1.out 22 5 9 Tryz.underlying22 Tryz.underlying5 Tryz.underlying9
 have s4:=run_str (P:=Tryz.prog) HE2.out 22 5 9 Tryz.underlying22 Tryz.underlying5 Tryz.underlying9
 by_cases h1:a.im=b.im
 ·have r1:=str_eq h1
  by_cases h2:a.ef=b.ef
  ·have r2:=str_eq h2
   have HH:=Hj (And.intro h1 h2)
   clear h1 h2
   go_wp2
   all_goals (first | (exfalso;simp_all;done) | (go_ret;exact ⟨ret_int (by unfold judge;rw[if_neg (by simp[HF1.out,HF2.out]),if_neg (by simp[HT1.out,HT2.out]),if_neg HT.out,if_neg (by simp),if_pos HH.out]),HL4.out⟩))
  have r2:=str_ne h2
  have HH:Hid (¬(a.im=b.im∧a.ef=b.ef)):=Hj (fun h=>h2 h.2)
  clear h1 h2
  go_wp2
  all_goals (first | (exfalso;simp_all;done) | (go_ret;exact ⟨ret_int (by unfold judge;rw[if_neg (by simp[HF1.out,HF2.out]),if_neg (by simp[HT1.out,HT2.out]),if_neg HT.out,if_neg (by simp),if_neg HH.out]),HL4.out⟩))
 have r1:=str_ne h1
 have HH:Hid (¬(a.im=b.im∧a.ef=b.ef)):=Hj (fun h=>h1 h.1)
 clear h1
 go_wp2
 all_goals (first | (exfalso;simp_all;done) | (go_ret;exact ⟨ret_int (by unfold judge;rw[if_neg (by simp[HF1.out,HF2.out]),if_neg (by simp[HT1.out,HT2.out]),if_neg HT.out,if_neg (by simp),if_neg HH.out]),HL4.out⟩))
theorem rjudge_any (a b:Oc) (i1 e1 i2 e2:Value) (pm:Bool) (w:World) (hI1:Bytes [] w i1 a.im) (hE1:Bytes [] w e1 a.ef) (hI2:Bytes [] w i2 b.im) (hE2:Bytes [] w e2 b.ef):
  Calls Tryz.prog 51 #[.agg #[.int .i64 a.en,.int .i64 a.st,.int .i64 a.er,i1,e1],.agg #[.int .i64 b.en,.int .i64 b.st,.int .i64 b.er,i2,e2],.bool pm] w fun r w'=>r= .returned (.agg #[.int .i64 (judge a b pm),.int .i64 (jst a b)])∧Below w.heap.size w w':=by
 obtain ⟨u,hu⟩:∃u,u=((w.alloc (.cells #[.int .i64 a.en,.int .i64 a.st,.int .i64 a.er,i1,e1] 46)).alloc (.cells #[.int .i64 b.en,.int .i64 b.st,.int .i64 b.er,i2,e2] 46)).alloc (.cells #[.int .i64 0,.int .i64 0] 71):=⟨_,rfl⟩
 have HU:=Hj hu
 have hbu:Below w.heap.size w u:=by rw[hu];exact b3 _ _ _ _
 have HLu:=Hj hbu
 have HAu:Hid (u.heap[w.heap.size]? =some (.cells #[.int .i64 a.en,.int .i64 a.st,.int .i64 a.er,i1,e1] 46 (0,0))):=Hj (by rw[hu];exact (((Br ((w.alloc _).alloc _).heap.size _).alloc (Nr _) _).block w.heap.size (by simp;omega)).trans (a2_0 w _ _))
 have HBu:Hid (u.heap[w.heap.size+1]? =some (.cells #[.int .i64 b.en,.int .i64 b.st,.int .i64 b.er,i2,e2] 46 (0,0))):=Hj (by rw[hu];exact (((Br ((w.alloc _).alloc _).heap.size _).alloc (Nr _) _).block (w.heap.size+1) (by simp)).trans (a2_1 w _ _))
 have HRu:Hid (u.heap[w.heap.size+1+1]? =some (.cells #[.int .i64 0,.int .i64 0] 71 (0,0))):=Hj (by rw[hu];exact a3 _ _ _ _)
 have HI1:=Hj (Rb hI1 hbu);have HE1:=Hj (Rb hE1 hbu);have HI2:=Hj (Rb hI2 hbu);have HE2:=Hj (Rb hE2 hbu)
 have hus:u.heap.size=w.heap.size+3:=by rw[hu];simp
 clear hu hI1 hE1 hI2 hE2 hbu
 go_enter Tryz.func51,Tryz.ntmps51
 go_upto_region 1 with (fail)
 rw[←HU.out]
 obtain ⟨A,hA⟩:∃A,A=w.heap.size:=⟨_,rfl⟩
 obtain ⟨B,hB⟩:∃B,B=w.heap.size+1:=⟨_,rfl⟩
 obtain ⟨R,hR⟩:∃R,R=w.heap.size+1+1:=⟨_,rfl⟩
 rw[←hR,←hB,←hA]
 rw[←hA] at HAu;rw[←hB] at HBu;rw[←hR] at HRu
 have hAB:A<B:=by omega
 have hBR:B<R:=by omega
 have hRu:R<u.heap.size:=by omega
 have hwA:w.heap.size≤A:=by omega
 clear hA hB hR hus HU
 have a0:=Bj HAu.out 0 rfl
 have a1:=Bj HAu.out 1 rfl
 have a2:=Bj HAu.out 2 rfl
 have a3:=Bj HAu.out 3 rfl
 have a4:=Bj HAu.out 4 rfl
 have b0:=Bj HBu.out 0 rfl
 have b1:=Bj HBu.out 1 rfl
 have b2:=Bj HBu.out 2 rfl
 have b3:=Bj HBu.out 3 rfl
 have b4:=Bj HBu.out 4 rfl
 have hBl:∀z∈[A,B],∃c e f,u.heap[z]? =some (.cells c e f):=fun z hz=>by
  rcases List.mem_cons.1 hz with rfl | hz
  ·exact ⟨_,_,_,HAu.out⟩
  rw[M1' hz];exact ⟨_,_,_,HBu.out⟩
 have HS0:=Hj (same_start hBl)
 refine Ty.wp_tree [A,B] [5,7] [11] [0,1,5,7] [0,1,2,4,5,6,7,8,9] (.alt [3,10] (.alt [11] (.done) (.no)) (.no)) (by kernel_rfl) (by kernel_rfl) (by kernel_rfl) (by kernel_rfl) hBl ?_
 clear hBl
 try simp only[pick,Gs,Gz]
 go_wp2
 refine Rm ?_
 refine Wq ?_
 try simp only[pick,Gs,Gz]
 go_wp2_with fail
 refine (rcause_any a b _ _ _ _ pm _ (Rb HI1.out (Br _ u).drew) (Rb HE1.out (Br _ u).drew) (Rb HI2.out (Br _ u).drew) (Rb HE2.out (Br _ u).drew)).mono ?_
 rintro e w1 ⟨rfl,hb1⟩
 have HL1:Hid (Below u.heap.size u w1):=Hj ((Br u.heap.size u).drew.trans hb1)
 have HS1:=Hj (same_below' HS0.out hb1)
 have hz1:=HL1.out.size
 have HA1:=Hj ((HL1.out.block A (by omega)).trans HAu.out)
 have HB1:=Hj ((HL1.out.block B (by omega)).trans HBu.out)
 have HR1:=Hj ((HL1.out.block R (by omega)).trans HRu.out)
 clear hb1 a0 a1 a2 a3 a4 b0 b1 b2 b3 b4
 have a0:=Bj HA1.out 0 rfl
 have a1:=Bj HA1.out 1 rfl
 have a2:=Bj HA1.out 2 rfl
 have a3:=Bj HA1.out 3 rfl
 have a4:=Bj HA1.out 4 rfl
 have b0:=Bj HB1.out 0 rfl
 have b1:=Bj HB1.out 1 rfl
 have b2:=Bj HB1.out 2 rfl
 have b3:=Bj HB1.out 3 rfl
 have b4:=Bj HB1.out 4 rfl
 have r0:=Bj HR1.out 0 rfl
 have r1:=Bj HR1.out 1 rfl
 have f0:=Bf HR1.out 0
 have f1:=Bf HR1.out 1
 go_wp2
 refine Sm (Ss HS1.out) ?_
 try simp only[pick,Gs,Gz]
 go_wp2
 refine Rm ?_
 refine Wq ?_
 try simp only[pick,Gs,Gz]
 go_wp2
 refine Sm (Ty.Shown.last rfl) ?_
 try simp only[pick,Gs,Gz]
 go_wp2
 refine Rm ?_
 refine Wd (by rfl) ⟨.head _,.tail _ (.head _),trivial⟩ ?_
 clear r0 r1 f0 f1
 go_wp2
 obtain ⟨XR,hN⟩:∃X,X=((w1.setCell ⟨R,0,none⟩ (.int .i64 (judge a b pm))).setCell ⟨R,1,none⟩ (.int .i64 (wrap64 (wrap64 (a.st+b.st)+1)))):=⟨_,rfl⟩
 rw[←hN]
 obtain ⟨hNb,hNk⟩:=puts_at [(0,.int .i64 (judge a b pm)),(1,.int .i64 (wrap64 (wrap64 (a.st+b.st)+1)))] HR1.out
 have hNe:puts w1 R [(0,.int .i64 (judge a b pm)),(1,.int .i64 (wrap64 (wrap64 (a.st+b.st)+1)))]=XR:=hN.symm
 rw[hNe] at hNb hNk
 have HKr:=Hj hNk
 have hXR:XR.heap[R]? =some (.cells #[.int .i64 (judge a b pm),.int .i64 (jst a b)] 71 (0,0)):=hNb
 refine bodyPost_ret (results_c rfl _ _ _ _ _ _ _ rfl hXR Tryz.underlying71 rfl (by kernel_rfl)) rfl ?_
 have hL:=HLu.out.trans (HL1.out.mono HLu.out.size)
 exact ⟨rfl,hL.trans (HKr.out.below hL.size (G1 (by omega)))⟩
theorem req27_any (o:Oc) (i1 e1 i2 e2:Value) (w:World) (hI1:Bytes [] w i1 o.im) (hE1:Bytes [] w e1 o.ef) (hI2:Bytes [] w i2 o.im) (hE2:Bytes [] w e2 o.ef):
  Calls Tryz.prog 20 #[.agg #[.int .i64 o.en,.int .i64 o.st,.int .i64 o.er,i1,e1],.agg #[.int .i64 o.en,.int .i64 o.st,.int .i64 o.er,i2,e2]] w fun r w'=>r= .returned (.bool true)∧Below w.heap.size w w':=by
 obtain ⟨ai,ac,rfl⟩:=Rs hI1
 obtain ⟨ae,aec,rfl⟩:=Rs hE1
 obtain ⟨bi,bc,rfl⟩:=Rs hI2
 obtain ⟨be,bec,rfl⟩:=Rs hE2
 obtain ⟨w0,hu⟩:∃u,u=(w.alloc (.cells #[.int .i64 o.en,.int .i64 o.st,.int .i64 o.er,(.slice ai o.im.length ac),(.slice ae o.ef.length aec)] 46)).alloc (.cells #[.int .i64 o.en,.int .i64 o.st,.int .i64 o.er,(.slice bi o.im.length bc),(.slice be o.ef.length bec)] 46):=⟨_,rfl⟩
 have HU:=Hj hu
 have hb0:Below w.heap.size w w0:=by rw[hu];exact ((Br _ w).alloc (Nr _) _).alloc (by simp) _
 have HL0:=Hj hb0
 have HA0:Hid (w0.heap[w.heap.size]? =some (.cells #[.int .i64 o.en,.int .i64 o.st,.int .i64 o.er,(.slice ai o.im.length ac),(.slice ae o.ef.length aec)] 46 (0,0))):=Hj (by rw[hu];exact a2_0 w _ _)
 have HB0:Hid (w0.heap[w.heap.size+1]? =some (.cells #[.int .i64 o.en,.int .i64 o.st,.int .i64 o.er,(.slice bi o.im.length bc),(.slice be o.ef.length bec)] 46 (0,0))):=Hj (by rw[hu];exact a2_1 w _ _)
 have HI1:=Hj (Rb hI1 hb0);have HE1:=Hj (Rb hE1 hb0);have HI2:=Hj (Rb hI2 hb0);have HE2:=Hj (Rb hE2 hb0)
 clear hI1 hE1 hI2 hE2 hu hb0
 go_enter Tryz.func20,Tryz.ntmps20
 go_upto_region 1 with (fail)
 rw[←HU.out]
 obtain ⟨A,hA⟩:∃A,A=w.heap.size:=⟨_,rfl⟩
 obtain ⟨B,hB⟩:∃B,B=w.heap.size+1:=⟨_,rfl⟩
 rw[←hB,←hA]
 rw[←hA] at HA0;rw[←hB] at HB0
 clear hA hB HU
 have a0:=Bj HA0.out 0 rfl
 have a1:=Bj HA0.out 1 rfl
 have a2:=Bj HA0.out 2 rfl
 have a3:=Bj HA0.out 3 rfl
 have a4:=Bj HA0.out 4 rfl
 have b0:=Bj HB0.out 0 rfl
 have b1:=Bj HB0.out 1 rfl
 have b2:=Bj HB0.out 2 rfl
 have b3:=Bj HB0.out 3 rfl
 have b4:=Bj HB0.out 4 rfl
 have s1:=run_str (P:=Tryz.prog) HI1.out 22 5 9 Tryz.underlying22 Tryz.underlying5 Tryz.underlying9
 have s2:=run_str (P:=Tryz.prog) HI2.out 22 5 9 Tryz.underlying22 Tryz.underlying5 Tryz.underlying9
 have s3:=run_str (P:=Tryz.prog) HE1.out 22 5 9 Tryz.underlying22 Tryz.underlying5 Tryz.underlying9
 have s4:=run_str (P:=Tryz.prog) HE2.out 22 5 9 Tryz.underlying22 Tryz.underlying5 Tryz.underlying9
 have r1:=str_eq (rfl:o.im=o.im)
 have r2:=str_eq (rfl:o.ef=o.ef)
 go_wp2
 go_ret
 exact ⟨rfl,HL0.out⟩
theorem from_any27 (F:List Nat) (o:Oc) (iv ev:Value) (w:World) (hil:o.im.length≤1000000) (hel:o.ef.length≤1000000) (hI:Bytes F w iv o.im) (hE:Bytes F w ev o.ef):
  Calls Tryz.prog 21 #[.agg #[.int .i64 o.en,.int .i64 o.st,.int .i64 o.er,iv,ev]] w fun e w'=>∃iv' ev',e= .returned (.agg #[.int .i64 o.en,.int .i64 o.st,.int .i64 o.er,iv',ev'])∧w'.ownsRow w.heap.size 5 1 iv' o.im.length (bytesV o.im)∧w'.ownsRow w.heap.size 5 1 ev' o.ef.length (bytesV o.ef)∧Below w.heap.size w w':=by
 obtain ⟨ai,ac,rfl⟩:=Rs hI
 obtain ⟨ae,aec,rfl⟩:=Rs hE
 obtain ⟨W1,hW1⟩:∃W,W=w.alloc (.cells #[.int .i64 o.en,.int .i64 o.st,.int .i64 o.er,(.slice ai o.im.length ac),(.slice ae o.ef.length aec)] 61):=⟨_,rfl⟩
 obtain ⟨W,hW⟩:∃W,W=W1.alloc (.cells #[.int .i64 0,.int .i64 0,.int .i64 0,.slice none 0 0,.slice none 0 0] 46):=⟨_,rfl⟩
 have HW1:=Hj hW1;have HW:=Hj hW
 have z1:W1.heap.size=w.heap.size+1:=by rw[hW1];simp
 have z2:W.heap.size=w.heap.size+1+1:=by rw[hW];simp[z1]
 have hb:Below w.heap.size w W:=by rw[hW,hW1];exact ((Br _ w).alloc (Nr _) _).alloc (by simp) _
 have hb2:Below W1.heap.size W1 W:=by rw[hW];exact (Br _ _).alloc (Nr _) _
 have HO:Hid (W.heap[w.heap.size]? =some (.cells #[.int .i64 o.en,.int .i64 o.st,.int .i64 o.er,(.slice ai o.im.length ac),(.slice ae o.ef.length aec)] 61 (0,0))):=Hj ((hb2.block _ (by omega)).trans (by rw[hW1];exact heap_alloc_new w _))
 have HR:Hid (W.heap[w.heap.size+1]? =some (.cells #[.int .i64 0,.int .i64 0,.int .i64 0,.slice none 0 0,.slice none 0 0] 46 (0,0))):=Hj (by rw[hW,←z1];exact heap_alloc_new W1 _)
 have HBW:=Hj hb
 have HI:=Hj (Rb hI hb);have HE:=Hj (Rb hE hb)
 clear hW1 hW hb hb2 hI hE
 go_enter Tryz.func21,Tryz.ntmps21
 go_upto_region 1 with (fail)
 rw[←HW1.out,←HW.out]
 obtain ⟨O,hO⟩:∃O,O=w.heap.size:=⟨_,rfl⟩
 obtain ⟨R,hR⟩:∃R,R=w.heap.size+1:=⟨_,rfl⟩
 rw[←hR,←hO]
 rw[←hO] at HO;rw[←hR] at HR
 have hwO:w.heap.size≤O:=by omega
 have hOR:O<R:=by omega
 have hRW:R<W.heap.size:=by omega
 have hwW:w.heap.size≤W.heap.size:=by omega
 clear hO hR HW1 HW z1 z2
 have o_0:W.cell? ⟨O,0,none⟩=some (.int .i64 o.en):=Bo HO.out rfl
 have o_1:W.cell? ⟨O,1,none⟩=some (.int .i64 o.st):=Bo HO.out rfl
 have o_2:W.cell? ⟨O,2,none⟩=some (.int .i64 o.er):=Bo HO.out rfl
 have o_3:W.cell? ⟨O,3,none⟩=some (.slice ai o.im.length ac):=Bo HO.out rfl
 have o_4:W.cell? ⟨O,4,none⟩=some (.slice ae o.ef.length aec):=Bo HO.out rfl
 have hBl:∀z∈[O],∃c e f,W.heap[z]? =some (.cells c e f):=fun z hz=>by rw[M1' hz];exact ⟨_,_,_,HO.out⟩
 have HS0:=Hj (same_start hBl)
 refine Ty.wp_tree [O] [1,3,5,8,12] [15] [1,3,5,8,12] [0,1,2,3,4,5,7,8,11,12] (.alt [6] (.alt [9] (.alt [10] (.alt [13,14] (.alt [15] (.done) (.no)) (.no)) (.no)) (.alt [10] (.alt [9] (.alt [13,14] (.alt [15] (.done) (.no)) (.no)) (.no)) (.no))) (.alt [10] (.alt [6] (.alt [9] (.alt [13,14] (.alt [15] (.done) (.no)) (.no)) (.no)) (.no)) (.no))) (by kernel_rfl) (by kernel_rfl) (by kernel_rfl) (by kernel_rfl) hBl ?_
 try simp only[pick,Gs,Gz]
 go_wp2
 refine Rm ?_
 refine Wa ?_ (Wa ?_ Ty.wpTr_no)
 ·try simp only[pick,Gs,Gz]
  go_wp2
  obtain ⟨A,hA⟩:∃A,A=W.heap.size:=⟨_,rfl⟩
  obtain ⟨y1,hwn⟩:∃X,X=(W.alloc (.cells #[] 5)).drew:=⟨_,rfl⟩
  rw[←hwn,←hA]
  have hb1:Below W.heap.size W y1:=by rw[hwn];exact ((Br _ _).alloc (Nr _) _).drew
  have hz1:=hb1.size
  have hn1:y1.heap[A]? =some (.cells #[] 5 (0,0)):=by rw[hwn,hA];exact ((Br (W.alloc (.cells #[] 5)).heap.size _).drew.block _ (by simp)).trans (heap_alloc_new _ _)
  have hl1:A<y1.heap.size:=(Al hn1)
  have HL1:Hid (Below W.heap.size W y1):=Hj (hb1)
  have hq1:=HL1.out.size
  have HOA1:Hid (y1.ownsRow W.heap.size 5 1 (.slice (some ⟨A,0,none⟩) 0 0) 0 []):=Hj ⟨by simp,.inr ⟨_,0,#[],rfl,by omega,hn1,by omega,by unfold maxLen;omega,rfl,rfl⟩⟩
  have HS1:Hid (SameB [O] W.drew y1):=Hj (same_below' (same_start hBl) (show Below W.drew.heap.size W.drew y1 by rw[hwn];exact (Br W.drew.heap.size W.drew).alloc (Nr _) _))
  have hge1:W.heap.size≤A:=by omega
  clear hwn hn1 hb1 hA
  refine Sm (Ss HS1.out) ?_
  try simp only[pick,Gs,Gz]
  go_wp2
  refine Rm ?_
  refine Wa ?_ (Wa ?_ Ty.wpTr_no)
  ·try simp only[pick,Gs,Gz]
   have HX2:=Hj (Rb HI.out HL1.out)
   have hq2:=HL1.out.size
   go_wp2_with (at_builtin;refine wpList_appF el22 Tryz.underlying22 HOA1.out HX2.out HL1.out rfl _ _ rfl rfl rfl ?c3 (Nr _) ?c5 ?_)
   case c3=>omega
   case c5=>omega
   intro v2 y2 hown hb2 hk2 hf2
   obtain ⟨a2,c2,rfl⟩:=Oq hown
   obtain ⟨q2,hq2'⟩:∃n,n=o.im.length:=⟨_,rfl⟩
   have hz2:y1.heap.size≤y2.heap.size:=hk2.size
   have HOA2:Hid (y2.ownsRow W.heap.size 5 1 (.slice a2 o.im.length c2) o.im.length (bytesV o.im)):=Hj (by simpa using hown)
   have HL2:=Hj hb2
   have HS2:=Hj (same_keep HS1.out hk2 (fun z hz hm=>by rw[List.mem_singleton] at hz;subst hz;simp[Value.ownBlock] at hm;omega))
   have hltA:∀z,(Value.slice a2 o.im.length c2).ownBlock=some z→z<y2.heap.size:=fun z hz=>(HOA2.out.lt z hz).2
   clear hown hb2 hk2 hf2
   refine Sm (Ss HS2.out) ?_
   try simp only[pick,Gs,Gz]
   go_wp2
   refine Rm ?_
   refine Wq ?_
   try simp only[pick,Gs,Gz]
   go_wp2
   obtain ⟨B,hB⟩:∃A,A=y2.heap.size:=⟨_,rfl⟩
   obtain ⟨y3,hwn⟩:∃X,X=y2.alloc (.cells #[] 5):=⟨_,rfl⟩
   rw[←hwn,←hB]
   have hb3:Below y2.heap.size y2 y3:=by rw[hwn];exact (Br _ _).alloc (Nr _) _
   have hz3:=hb3.size
   have hn3:y3.heap[B]? =some (.cells #[] 5 (0,0)):=by rw[hwn,hB];exact heap_alloc_new _ _
   have hl3:B<y3.heap.size:=(Al hn3)
   have HL3:Hid (Below W.heap.size W y3):=Hj (HL2.out.trans (hb3.mono HL2.out.size))
   have hq3:=HL3.out.size
   have hqq3:=HL2.out.size
   have HOB3:Hid (y3.ownsRow W.heap.size 5 1 (.slice (some ⟨B,0,none⟩) 0 0) 0 []):=Hj ⟨by simp,.inr ⟨_,0,#[],rfl,by omega,hn3,by omega,by unfold maxLen;omega,rfl,rfl⟩⟩
   have HOA3:=Hj (own_below HOA2.out hb3 (Nr _))
   have HS3:=Hj (same_below' HS2.out hb3)
   have hneA:∀z,(Value.slice a2 o.im.length c2).ownBlock=some z→z≠B:=fun z hz e=>by have:=hltA z hz;omega
   have hge3:y2.heap.size≤B:=by omega
   clear hwn hn3 hb3 hB
   refine Sm (Ss HS3.out) ?_
   try simp only[pick,Gs,Gz]
   go_wp2
   refine Rm ?_
   refine Wq ?_
   try simp only[pick,Gs,Gz]
   have HX4:=Hj (Rb HE.out HL3.out)
   have hq4:=HL3.out.size
   go_wp2_with (at_builtin;refine wpList_appF el22 Tryz.underlying22 HOB3.out HX4.out HL3.out rfl _ _ rfl rfl rfl ?c3 (Nr _) ?c5 ?_)
   case c3=>omega
   case c5=>omega
   intro v4 y4 hown hb4 hk4 hf4
   obtain ⟨a4,c4,rfl⟩:=Oq hown
   obtain ⟨q4,hq4'⟩:∃n,n=o.ef.length:=⟨_,rfl⟩
   have hz4:y3.heap.size≤y4.heap.size:=hk4.size
   have HOB4:Hid (y4.ownsRow W.heap.size 5 1 (.slice a4 o.ef.length c4) o.ef.length (bytesV o.ef)):=Hj (by simpa using hown)
   have HL4:=Hj hb4
   have HS4:=Hj (same_keep HS3.out hk4 (fun z hz hm=>by rw[List.mem_singleton] at hz;subst hz;simp[Value.ownBlock] at hm;omega))
   have HOA4:=Hj (own_keep HOA3.out hk4 (fun z hz hm=>by simp only[Value.ownBlock,Option.toList,List.mem_singleton] at hm;exact hneA z hz hm))
   clear hown hb4 hk4 hf4
   have hq9:=HL4.out.size
   have HOb:=Hj ((HL4.out.block O (by omega)).trans HO.out)
   have HRb:=Hj ((HL4.out.block R hRW).trans HR.out)
   clear o_0 o_1 o_2 o_3 o_4
   have r0:=Bj HRb.out 0 rfl
   have f0:=Bf HRb.out 0
   have r1:=Bj HRb.out 1 rfl
   have f1:=Bf HRb.out 1
   have r2:=Bj HRb.out 2 rfl
   have f2:=Bf HRb.out 2
   have r3:=Bj HRb.out 3 rfl
   have f3:=Bf HRb.out 3
   have r4:=Bj HRb.out 4 rfl
   have f4:=Bf HRb.out 4
   have o_0:y4.cell? ⟨O,0,none⟩=some (.int .i64 o.en):=Bo HOb.out rfl
   have o_1:y4.cell? ⟨O,1,none⟩=some (.int .i64 o.st):=Bo HOb.out rfl
   have o_2:y4.cell? ⟨O,2,none⟩=some (.int .i64 o.er):=Bo HOb.out rfl
   have o_3:y4.cell? ⟨O,3,none⟩=some (.slice ai o.im.length ac):=Bo HOb.out rfl
   have o_4:y4.cell? ⟨O,4,none⟩=some (.slice ae o.ef.length aec):=Bo HOb.out rfl
   go_wp2
   refine Sm (Ss HS4.out) ?_
   try simp only[pick,Gs,Gz]
   go_wp2
   refine Rm ?_
   refine Wq ?_
   try simp only[pick,Gs,Gz]
   go_wp2
   refine Sm (Ty.Shown.last rfl) ?_
   try simp only[pick,Gs,Gz]
   go_wp2
   refine Rm ?_
   refine Wd (by rfl) ⟨.head _,.head _,.head _,.head _,.head _,trivial⟩ ?_
   clear r0 r1 r2 r3 r4 f0 f1 f2 f3 f4 o_0 o_1 o_2 o_3 o_4
   go_wp2
   obtain ⟨XR,hN⟩:∃X,X=(((((y4.setCell ⟨R,0,none⟩ (.int .i64 o.en)).setCell ⟨R,1,none⟩ (.int .i64 o.st)).setCell ⟨R,2,none⟩ (.int .i64 o.er)).setCell ⟨R,3,none⟩ (.slice a2 o.im.length c2)).setCell ⟨R,4,none⟩ (.slice a4 o.ef.length c4)):=⟨_,rfl⟩
   rw[←hN]
   obtain ⟨hNb,hNk⟩:=puts_at [(0,.int .i64 o.en),(1,.int .i64 o.st),(2,.int .i64 o.er),(3,.slice a2 o.im.length c2),(4,.slice a4 o.ef.length c4)] HRb.out
   have hNe:puts y4 R [(0,.int .i64 o.en),(1,.int .i64 o.st),(2,.int .i64 o.er),(3,.slice a2 o.im.length c2),(4,.slice a4 o.ef.length c4)]=XR:=hN.symm
   have hNz:=puts_size [(0,.int .i64 o.en),(1,.int .i64 o.st),(2,.int .i64 o.er),(3,.slice a2 o.im.length c2),(4,.slice a4 o.ef.length c4)] y4 R
   rw[hNe] at hNb hNk hNz
   have HKr:=Hj hNk
   have HZr:=Hj hNz
   have hXR:XR.heap[R]? =some (.cells #[.int .i64 o.en,.int .i64 o.st,.int .i64 o.er,(.slice a2 o.im.length c2),(.slice a4 o.ef.length c4)] 46 (0,0)):=hNb
   refine bodyPost_ret (results_c rfl _ _ _ _ _ _ _ rfl hXR Tryz.underlying46 rfl (by kernel_rfl)) rfl ?_
   have hL:=HBW.out.trans (HL4.out.mono hwW)
   exact ⟨_,_,rfl,own_base (own_keep HOA4.out HKr.out (Ow HOA4.out (by omega))) hwW,own_base (own_keep HOB4.out HKr.out (Ow HOB4.out (by omega))) hwW,hL.trans (HKr.out.below hL.size (G1 (by omega)))⟩
  try simp only[pick,Gs,Gz]
  go_wp2
  obtain ⟨B,hB⟩:∃A,A=y1.heap.size:=⟨_,rfl⟩
  obtain ⟨y2,hwn⟩:∃X,X=y1.alloc (.cells #[] 5):=⟨_,rfl⟩
  rw[←hwn,←hB]
  have hb2:Below y1.heap.size y1 y2:=by rw[hwn];exact (Br _ _).alloc (Nr _) _
  have hz2:=hb2.size
  have hn2:y2.heap[B]? =some (.cells #[] 5 (0,0)):=by rw[hwn,hB];exact heap_alloc_new _ _
  have hl2:B<y2.heap.size:=(Al hn2)
  have HL2:Hid (Below W.heap.size W y2):=Hj (HL1.out.trans (hb2.mono HL1.out.size))
  have hq2:=HL2.out.size
  have hqq2:=HL1.out.size
  have HOB2:Hid (y2.ownsRow W.heap.size 5 1 (.slice (some ⟨B,0,none⟩) 0 0) 0 []):=Hj ⟨by simp,.inr ⟨_,0,#[],rfl,by omega,hn2,by omega,by unfold maxLen;omega,rfl,rfl⟩⟩
  have HOA2:=Hj (own_below HOA1.out hb2 (Nr _))
  have HS2:=Hj (same_below' HS1.out hb2)
  have hge2:y1.heap.size≤B:=by omega
  clear hwn hn2 hb2 hB
  refine Sm (Ss HS2.out) ?_
  try simp only[pick,Gs,Gz]
  go_wp2
  refine Rm ?_
  refine Wq ?_
  try simp only[pick,Gs,Gz]
  have HX3:=Hj (Rb HI.out HL2.out)
  have hq3:=HL2.out.size
  go_wp2_with (at_builtin;refine wpList_appF el22 Tryz.underlying22 HOA2.out HX3.out HL2.out rfl _ _ rfl rfl rfl ?c3 (Nr _) ?c5 ?_)
  case c3=>omega
  case c5=>omega
  intro v3 y3 hown hb3 hk3 hf3
  obtain ⟨a3,c3,rfl⟩:=Oq hown
  obtain ⟨q3,hq3'⟩:∃n,n=o.im.length:=⟨_,rfl⟩
  have hz3:y2.heap.size≤y3.heap.size:=hk3.size
  have HOA3:Hid (y3.ownsRow W.heap.size 5 1 (.slice a3 o.im.length c3) o.im.length (bytesV o.im)):=Hj (by simpa using hown)
  have HL3:=Hj hb3
  have HS3:=Hj (same_keep HS2.out hk3 (fun z hz hm=>by rw[List.mem_singleton] at hz;subst hz;simp[Value.ownBlock] at hm;omega))
  have HOB3:=Hj (own_keep HOB2.out hk3 (fun z hz hm=>by simp[Value.ownBlock] at hz hm;omega))
  have hneA:∀z,(Value.slice a3 o.im.length c3).ownBlock=some z→z≠B:=fun z hz e=>by
   rcases hf3 z (by simp[hz]) with h | h
   ·simp[Value.ownBlock] at h;omega
   omega
  clear hown hb3 hk3 hf3
  refine Sm (Ss HS3.out) ?_
  try simp only[pick,Gs,Gz]
  go_wp2
  refine Rm ?_
  refine Wq ?_
  try simp only[pick,Gs,Gz]
  have HX4:=Hj (Rb HE.out HL3.out)
  have hq4:=HL3.out.size
  go_wp2_with (at_builtin;refine wpList_appF el22 Tryz.underlying22 HOB3.out HX4.out HL3.out rfl _ _ rfl rfl rfl ?c3 (Nr _) ?c5 ?_)
  case c3=>omega
  case c5=>omega
  intro v4 y4 hown hb4 hk4 hf4
  obtain ⟨a4,c4,rfl⟩:=Oq hown
  obtain ⟨q4,hq4'⟩:∃n,n=o.ef.length:=⟨_,rfl⟩
  have hz4:y3.heap.size≤y4.heap.size:=hk4.size
  have HOB4:Hid (y4.ownsRow W.heap.size 5 1 (.slice a4 o.ef.length c4) o.ef.length (bytesV o.ef)):=Hj (by simpa using hown)
  have HL4:=Hj hb4
  have HS4:=Hj (same_keep HS3.out hk4 (fun z hz hm=>by rw[List.mem_singleton] at hz;subst hz;simp[Value.ownBlock] at hm;omega))
  have HOA4:=Hj (own_keep HOA3.out hk4 (fun z hz hm=>by simp only[Value.ownBlock,Option.toList,List.mem_singleton] at hm;exact hneA z hz hm))
  clear hown hb4 hk4 hf4
  have hq9:=HL4.out.size
  have HOb:=Hj ((HL4.out.block O (by omega)).trans HO.out)
  have HRb:=Hj ((HL4.out.block R hRW).trans HR.out)
  clear o_0 o_1 o_2 o_3 o_4
  have r0:=Bj HRb.out 0 rfl
  have f0:=Bf HRb.out 0
  have r1:=Bj HRb.out 1 rfl
  have f1:=Bf HRb.out 1
  have r2:=Bj HRb.out 2 rfl
  have f2:=Bf HRb.out 2
  have r3:=Bj HRb.out 3 rfl
  have f3:=Bf HRb.out 3
  have r4:=Bj HRb.out 4 rfl
  have f4:=Bf HRb.out 4
  have o_0:y4.cell? ⟨O,0,none⟩=some (.int .i64 o.en):=Bo HOb.out rfl
  have o_1:y4.cell? ⟨O,1,none⟩=some (.int .i64 o.st):=Bo HOb.out rfl
  have o_2:y4.cell? ⟨O,2,none⟩=some (.int .i64 o.er):=Bo HOb.out rfl
  have o_3:y4.cell? ⟨O,3,none⟩=some (.slice ai o.im.length ac):=Bo HOb.out rfl
  have o_4:y4.cell? ⟨O,4,none⟩=some (.slice ae o.ef.length aec):=Bo HOb.out rfl
  go_wp2
  refine Sm (Ss HS4.out) ?_
  try simp only[pick,Gs,Gz]
  go_wp2
  refine Rm ?_
  refine Wq ?_
  try simp only[pick,Gs,Gz]
  go_wp2
  refine Sm (Ty.Shown.last rfl) ?_
  try simp only[pick,Gs,Gz]
  go_wp2
  refine Rm ?_
  refine Wd (by rfl) ⟨.head _,.head _,.head _,.head _,.head _,trivial⟩ ?_
  clear r0 r1 r2 r3 r4 f0 f1 f2 f3 f4 o_0 o_1 o_2 o_3 o_4
  go_wp2
  obtain ⟨XR,hN⟩:∃X,X=(((((y4.setCell ⟨R,0,none⟩ (.int .i64 o.en)).setCell ⟨R,1,none⟩ (.int .i64 o.st)).setCell ⟨R,2,none⟩ (.int .i64 o.er)).setCell ⟨R,3,none⟩ (.slice a3 o.im.length c3)).setCell ⟨R,4,none⟩ (.slice a4 o.ef.length c4)):=⟨_,rfl⟩
  rw[←hN]
  obtain ⟨hNb,hNk⟩:=puts_at [(0,.int .i64 o.en),(1,.int .i64 o.st),(2,.int .i64 o.er),(3,.slice a3 o.im.length c3),(4,.slice a4 o.ef.length c4)] HRb.out
  have hNe:puts y4 R [(0,.int .i64 o.en),(1,.int .i64 o.st),(2,.int .i64 o.er),(3,.slice a3 o.im.length c3),(4,.slice a4 o.ef.length c4)]=XR:=hN.symm
  have hNz:=puts_size [(0,.int .i64 o.en),(1,.int .i64 o.st),(2,.int .i64 o.er),(3,.slice a3 o.im.length c3),(4,.slice a4 o.ef.length c4)] y4 R
  rw[hNe] at hNb hNk hNz
  have HKr:=Hj hNk
  have HZr:=Hj hNz
  have hXR:XR.heap[R]? =some (.cells #[.int .i64 o.en,.int .i64 o.st,.int .i64 o.er,(.slice a3 o.im.length c3),(.slice a4 o.ef.length c4)] 46 (0,0)):=hNb
  refine bodyPost_ret (results_c rfl _ _ _ _ _ _ _ rfl hXR Tryz.underlying46 rfl (by kernel_rfl)) rfl ?_
  have hL:=HBW.out.trans (HL4.out.mono hwW)
  exact ⟨_,_,rfl,own_base (own_keep HOA4.out HKr.out (Ow HOA4.out (by omega))) hwW,own_base (own_keep HOB4.out HKr.out (Ow HOB4.out (by omega))) hwW,hL.trans (HKr.out.below hL.size (G1 (by omega)))⟩
 try simp only[pick,Gs,Gz]
 go_wp2
 obtain ⟨B,hB⟩:∃A,A=W.heap.size:=⟨_,rfl⟩
 obtain ⟨y1,hwn⟩:∃X,X=(W.alloc (.cells #[] 5)).drew:=⟨_,rfl⟩
 rw[←hwn,←hB]
 have hb1:Below W.heap.size W y1:=by rw[hwn];exact ((Br _ _).alloc (Nr _) _).drew
 have hz1:=hb1.size
 have hn1:y1.heap[B]? =some (.cells #[] 5 (0,0)):=by rw[hwn,hB];exact ((Br (W.alloc (.cells #[] 5)).heap.size _).drew.block _ (by simp)).trans (heap_alloc_new _ _)
 have hl1:B<y1.heap.size:=(Al hn1)
 have HL1:Hid (Below W.heap.size W y1):=Hj (hb1)
 have hq1:=HL1.out.size
 have HOB1:Hid (y1.ownsRow W.heap.size 5 1 (.slice (some ⟨B,0,none⟩) 0 0) 0 []):=Hj ⟨by simp,.inr ⟨_,0,#[],rfl,by omega,hn1,by omega,by unfold maxLen;omega,rfl,rfl⟩⟩
 have HS1:Hid (SameB [O] W.drew y1):=Hj (same_below' (same_start hBl) (show Below W.drew.heap.size W.drew y1 by rw[hwn];exact (Br W.drew.heap.size W.drew).alloc (Nr _) _))
 have hge1:W.heap.size≤B:=by omega
 clear hwn hn1 hb1 hB
 refine Sm (Ss HS1.out) ?_
 try simp only[pick,Gs,Gz]
 go_wp2
 refine Rm ?_
 refine Wq ?_
 try simp only[pick,Gs,Gz]
 go_wp2
 obtain ⟨A,hA⟩:∃A,A=y1.heap.size:=⟨_,rfl⟩
 obtain ⟨y2,hwn⟩:∃X,X=y1.alloc (.cells #[] 5):=⟨_,rfl⟩
 rw[←hwn,←hA]
 have hb2:Below y1.heap.size y1 y2:=by rw[hwn];exact (Br _ _).alloc (Nr _) _
 have hz2:=hb2.size
 have hn2:y2.heap[A]? =some (.cells #[] 5 (0,0)):=by rw[hwn,hA];exact heap_alloc_new _ _
 have hl2:A<y2.heap.size:=(Al hn2)
 have HL2:Hid (Below W.heap.size W y2):=Hj (HL1.out.trans (hb2.mono HL1.out.size))
 have hq2:=HL2.out.size
 have hqq2:=HL1.out.size
 have HOA2:Hid (y2.ownsRow W.heap.size 5 1 (.slice (some ⟨A,0,none⟩) 0 0) 0 []):=Hj ⟨by simp,.inr ⟨_,0,#[],rfl,by omega,hn2,by omega,by unfold maxLen;omega,rfl,rfl⟩⟩
 have HOB2:=Hj (own_below HOB1.out hb2 (Nr _))
 have HS2:=Hj (same_below' HS1.out hb2)
 have hge2:y1.heap.size≤A:=by omega
 clear hwn hn2 hb2 hA
 refine Sm (Ss HS2.out) ?_
 try simp only[pick,Gs,Gz]
 go_wp2
 refine Rm ?_
 refine Wq ?_
 try simp only[pick,Gs,Gz]
 have HX3:=Hj (Rb HI.out HL2.out)
 have hq3:=HL2.out.size
 go_wp2_with (at_builtin;refine wpList_appF el22 Tryz.underlying22 HOA2.out HX3.out HL2.out rfl _ _ rfl rfl rfl ?c3 (Nr _) ?c5 ?_)
 case c3=>omega
 case c5=>omega
 intro v3 y3 hown hb3 hk3 hf3
 obtain ⟨a3,c3,rfl⟩:=Oq hown
 obtain ⟨q3,hq3'⟩:∃n,n=o.im.length:=⟨_,rfl⟩
 have hz3:y2.heap.size≤y3.heap.size:=hk3.size
 have HOA3:Hid (y3.ownsRow W.heap.size 5 1 (.slice a3 o.im.length c3) o.im.length (bytesV o.im)):=Hj (by simpa using hown)
 have HL3:=Hj hb3
 have HS3:=Hj (same_keep HS2.out hk3 (fun z hz hm=>by rw[List.mem_singleton] at hz;subst hz;simp[Value.ownBlock] at hm;omega))
 have HOB3:=Hj (own_keep HOB2.out hk3 (fun z hz hm=>by simp[Value.ownBlock] at hz hm;omega))
 have hneA:∀z,(Value.slice a3 o.im.length c3).ownBlock=some z→z≠B:=fun z hz e=>by
  rcases hf3 z (by simp[hz]) with h | h
  ·simp[Value.ownBlock] at h;omega
  omega
 clear hown hb3 hk3 hf3
 refine Sm (Ss HS3.out) ?_
 try simp only[pick,Gs,Gz]
 go_wp2
 refine Rm ?_
 refine Wq ?_
 try simp only[pick,Gs,Gz]
 have HX4:=Hj (Rb HE.out HL3.out)
 have hq4:=HL3.out.size
 go_wp2_with (at_builtin;refine wpList_appF el22 Tryz.underlying22 HOB3.out HX4.out HL3.out rfl _ _ rfl rfl rfl ?c3 (Nr _) ?c5 ?_)
 case c3=>omega
 case c5=>omega
 intro v4 y4 hown hb4 hk4 hf4
 obtain ⟨a4,c4,rfl⟩:=Oq hown
 obtain ⟨q4,hq4'⟩:∃n,n=o.ef.length:=⟨_,rfl⟩
 have hz4:y3.heap.size≤y4.heap.size:=hk4.size
 have HOB4:Hid (y4.ownsRow W.heap.size 5 1 (.slice a4 o.ef.length c4) o.ef.length (bytesV o.ef)):=Hj (by simpa using hown)
 have HL4:=Hj hb4
 have HS4:=Hj (same_keep HS3.out hk4 (fun z hz hm=>by rw[List.mem_singleton] at hz;subst hz;simp[Value.ownBlock] at hm;omega))
 have HOA4:=Hj (own_keep HOA3.out hk4 (fun z hz hm=>by simp only[Value.ownBlock,Option.toList,List.mem_singleton] at hm;exact hneA z hz hm))
 clear hown hb4 hk4 hf4
 have hq9:=HL4.out.size
 have HOb:=Hj ((HL4.out.block O (by omega)).trans HO.out)
 have HRb:=Hj ((HL4.out.block R hRW).trans HR.out)
 clear o_0 o_1 o_2 o_3 o_4
 have r0:=Bj HRb.out 0 rfl
 have f0:=Bf HRb.out 0
 have r1:=Bj HRb.out 1 rfl
 have f1:=Bf HRb.out 1
 have r2:=Bj HRb.out 2 rfl
 have f2:=Bf HRb.out 2
 have r3:=Bj HRb.out 3 rfl
 have f3:=Bf HRb.out 3
 have r4:=Bj HRb.out 4 rfl
 have f4:=Bf HRb.out 4
 have o_0:y4.cell? ⟨O,0,none⟩=some (.int .i64 o.en):=Bo HOb.out rfl
 have o_1:y4.cell? ⟨O,1,none⟩=some (.int .i64 o.st):=Bo HOb.out rfl
 have o_2:y4.cell? ⟨O,2,none⟩=some (.int .i64 o.er):=Bo HOb.out rfl
 have o_3:y4.cell? ⟨O,3,none⟩=some (.slice ai o.im.length ac):=Bo HOb.out rfl
 have o_4:y4.cell? ⟨O,4,none⟩=some (.slice ae o.ef.length aec):=Bo HOb.out rfl
 go_wp2
 refine Sm (Ss HS4.out) ?_
 try simp only[pick,Gs,Gz]
 go_wp2
 refine Rm ?_
 refine Wq ?_
 try simp only[pick,Gs,Gz]
 go_wp2
 refine Sm (Ty.Shown.last rfl) ?_
 try simp only[pick,Gs,Gz]
 go_wp2
 refine Rm ?_
 refine Wd (by rfl) ⟨.head _,.head _,.head _,.head _,.head _,trivial⟩ ?_
 clear r0 r1 r2 r3 r4 f0 f1 f2 f3 f4 o_0 o_1 o_2 o_3 o_4
 go_wp2
 obtain ⟨XR,hN⟩:∃X,X=(((((y4.setCell ⟨R,0,none⟩ (.int .i64 o.en)).setCell ⟨R,1,none⟩ (.int .i64 o.st)).setCell ⟨R,2,none⟩ (.int .i64 o.er)).setCell ⟨R,3,none⟩ (.slice a3 o.im.length c3)).setCell ⟨R,4,none⟩ (.slice a4 o.ef.length c4)):=⟨_,rfl⟩
 rw[←hN]
 obtain ⟨hNb,hNk⟩:=puts_at [(0,.int .i64 o.en),(1,.int .i64 o.st),(2,.int .i64 o.er),(3,.slice a3 o.im.length c3),(4,.slice a4 o.ef.length c4)] HRb.out
 have hNe:puts y4 R [(0,.int .i64 o.en),(1,.int .i64 o.st),(2,.int .i64 o.er),(3,.slice a3 o.im.length c3),(4,.slice a4 o.ef.length c4)]=XR:=hN.symm
 have hNz:=puts_size [(0,.int .i64 o.en),(1,.int .i64 o.st),(2,.int .i64 o.er),(3,.slice a3 o.im.length c3),(4,.slice a4 o.ef.length c4)] y4 R
 rw[hNe] at hNb hNk hNz
 have HKr:=Hj hNk
 have HZr:=Hj hNz
 have hXR:XR.heap[R]? =some (.cells #[.int .i64 o.en,.int .i64 o.st,.int .i64 o.er,(.slice a3 o.im.length c3),(.slice a4 o.ef.length c4)] 46 (0,0)):=hNb
 refine bodyPost_ret (results_c rfl _ _ _ _ _ _ _ rfl hXR Tryz.underlying46 rfl (by kernel_rfl)) rfl ?_
 have hL:=HBW.out.trans (HL4.out.mono hwW)
 exact ⟨_,_,rfl,own_base (own_keep HOA4.out HKr.out (Ow HOA4.out (by omega))) hwW,own_base (own_keep HOB4.out HKr.out (Ow HOB4.out (by omega))) hwW,hL.trans (HKr.out.below hL.size (G1 (by omega)))⟩
end Go.Proofs.YtipiofgdjbogiaaGreat
