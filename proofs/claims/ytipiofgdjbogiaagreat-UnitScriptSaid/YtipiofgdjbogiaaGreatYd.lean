/- the reference's messages -/
import Derived.Test.YtipiofgdjbogiaaGreatQd
set_option maxRecDepth 100000
set_option maxHeartbeats 4000000
namespace Go.Proofs.YtipiofgdjbogiaaGreat
open Go.Txt Go.RowKit Go.Bs Go.Cl Go.Rw Go.Un Go.Im Go.Fa Go.Wi
theorem rplain_any (lv:Value) (ns:List Int) (w:World) (hn:ns.length≤1000) (hf:∀x∈ns,fits x) (hX:SlI [] w lv ns):
  Calls Tryz.prog 98 #[lv] w fun e w'=>∃v',e= .returned v'∧BRow 5 w' w.heap.size v' (ns.flatMap encI)∧Below w.heap.size w w':=by
 obtain ⟨xa,xc,rfl⟩:=Rs hX
 have HX:=Hj hX
 have HF:=Hj hf
 clear hX hf
 go_enter Tryz.func98,Tryz.ntmps98
 go_wp2
 go_loopw [3,4] (fun bv i wr=>∃k:Nat,k≤ns.length∧i= .int .i64 k∧BRow 5 wr w.heap.size bv ((ns.take k).flatMap encI)∧Below w.heap.size w wr) (fun _ i _=>ns.length - (intOf i).toNat)
 case atStart=>exact ⟨0,Nat.zero_le _,rfl,by simpa using brow_nil _ _ _,Br _ _⟩
 case round=>
  obtain ⟨k,hk,rfl,hrow,hbel⟩:=hrel
  have hsz:=hbel.size
  have hacc:((ns.take k).flatMap encI).length≤10000:=by
   have:=enc_flat (l:=ns.take k) (fun x hx=>HF.out x (List.mem_of_mem_take hx))
   have h2:(ns.take k).length≤ns.length:=by simp;omega
   omega
  obtain ⟨acc,hac⟩:∃acc,(ns.take k).flatMap encI=acc:=⟨_,rfl⟩
  rw[hac] at hrow hacc
  have Hac:=Hj hac;clear hac
  obtain ⟨ra,rc,rfl⟩:=Oq hrow
  have HR:=Hj hrow
  have HB:=Hj hbel
  clear hrow
  by_cases hlt:k<ns.length
  ·obtain ⟨b,off,rfl,hb,h0⟩:=SlI.elem (show SlI [] wr (.slice xa ns.length xc) ns from Rb HX.out hbel) hlt
   have htf:=take_enc hlt
   have hfz:=HF.out _ (List.mem_of_getElem? (atI_get hlt))
   obtain ⟨z,hz⟩:∃z,atI ns k=z:=⟨_,rfl⟩
   rw[hz] at h0 htf hfz
   have Htf:=Hj htf;have Hfz:=Hj hfz;clear htf hfz hz hbel
   go_wp2_with fail
   refine (rint_any z _ Hfz.out).mono ?_
   rintro e w4 ⟨v4,rfl,hr4,hb4⟩
   have hl4:=encI_len Hfz.out
   have HB4:=Hj (HB.out.trans (hb4.mono hsz))
   have HR4:=Hj (HR.out.below hb4)
   have HX4:=Hj (Bytes.row (F:=[]) hr4 rfl (fun f hf=>by cases hf))
   have hs4:=HB4.out.size
   obtain ⟨a4,c4,rfl⟩:=Oq hr4
   clear hr4 hb4 h0
   go_wp2_with (at_builtin;refine wpList_appF elB Tryz.underlying22 HR4.out HX4.out HB4.out rfl _ _ rfl rfl rfl ?c3 ?cB ?c5 ?_)
   case c3=>omega
   case cB=>exact Nr _
   case c5=>exact hs4
   intro v5 w5 hown5 hb5 hk5 hn5
   have hr5:BRow 5 w5 w.heap.size v5 ((ns.take (k+1)).flatMap encI):=by
    rw[Htf.out,Hac.out]
    exact brow_app rfl hown5
   have HR5:=Hj hr5
   have HB5:=Hj hb5
   clear hown5 hb5 hk5 hn5 hr5
   go_wp2
   go_roundw
   case rel=>exact ⟨k+1,hlt,by go_num,HR5.out,HB5.out⟩
   case measure=>simp[intOf];omega
  obtain rfl:k=ns.length:=by omega
  rw[List.take_length] at Hac
  clear hbel
  go_wp2
  go_ret
  rw[Hac.out]
  exact ⟨_,rfl,HR.out,HB.out⟩
theorem rmsg_any (ms md mk mq m0 m1 m2 m3:Int) (mv:Value) (d:List UInt8) (w:World) (hf:∀x∈[ms,md,mk,mq,m0,m1,m2,m3],fits x) (hd:d.length≤100000) (hD:Bytes [] w mv d):
  Calls Tryz.prog 42 #[.agg #[.int .i64 ms,.int .i64 md,.int .i64 mk,.int .i64 mq,.int .i64 m0,.int .i64 m1,.int .i64 m2,.int .i64 m3,mv]] w fun e w'=>∃v',e= .returned v'∧BRow 5 w' w.heap.size v' (encM ms md mk mq m0 m1 m2 m3 d)∧Below w.heap.size w w':=by
 obtain ⟨da,dc,rfl⟩:=Rs hD
 obtain ⟨w1,hw1⟩:∃W,W=w.alloc (.cells #[.int .i64 ms,.int .i64 md,.int .i64 mk,.int .i64 mq,.int .i64 m0,.int .i64 m1,.int .i64 m2,.int .i64 m3,.slice da d.length dc] 44):=⟨_,rfl⟩
 have hb1:Below w.heap.size w w1:=by rw[hw1];exact (Br _ w).alloc (Nr _) _
 have HM1:Hid (w1.heap[w.heap.size]? =some (.cells #[.int .i64 ms,.int .i64 md,.int .i64 mk,.int .i64 mq,.int .i64 m0,.int .i64 m1,.int .i64 m2,.int .i64 m3,.slice da d.length dc] 44 (0,0))):=Hj (by rw[hw1];exact heap_alloc_new w _)
 have HD1:=Hj (Rb hD hb1)
 have HR:=Hj hw1
 have HBL1:=Hj hb1
 have HF:=Hj hf
 have hz1:=hb1.size
 clear hw1 hD hb1 hf
 go_enter Tryz.func42,Tryz.ntmps42
 go_upto_region 1 with (fail)
 rw[←HR.out]
 obtain ⟨M,hM⟩:∃M,M=w.heap.size:=⟨_,rfl⟩
 rw[←hM]
 rw[←hM] at HM1
 have hMl:M<w1.heap.size:=(Al HM1.out)
 clear hM HR
 have m_0:=Bj HM1.out 0 rfl
 have m_1:=Bj HM1.out 1 rfl
 have m_2:=Bj HM1.out 2 rfl
 have m_3:=Bj HM1.out 3 rfl
 have m_4:=Bj HM1.out 4 rfl
 have m_5:=Bj HM1.out 5 rfl
 have m_6:=Bj HM1.out 6 rfl
 have m_7:=Bj HM1.out 7 rfl
 have m_8:=Bj HM1.out 8 rfl
 have hBl:=show∀q∈[M],∃cc e f,w1.heap[q]? =some (.cells cc e f) from fun q hq=>by rw[M1' hq];exact ⟨_,_,_,HM1.out⟩
 have HS1:=Hj (same_start hBl)
 refine Ty.wp_tree [M] [23] [] [1,3,5,7,10,13,16,19,23] [0,1,2,3,4,5,6,7,8,9,10,11,12,13,14,15,16,17,18,19,22,23] (.alt [20] (.alt [21] (.alt [24] (.alt [25,26] (.done) (.no)) (.no)) (.no)) (.no)) (by kernel_rfl) (by kernel_rfl) (by kernel_rfl) (by kernel_rfl) hBl ?_
 clear hBl
 try simp only[pick,Gs,Gz]
 go_wp2
 refine Rm ?_
 refine Wq ?_
 try simp only[pick,Gs,Gz]
 go_wp2
 clear m_0 m_1 m_2 m_3 m_4 m_5 m_6 m_7
 obtain ⟨A,hA⟩:∃A,A=w1.heap.size:=⟨_,rfl⟩
 obtain ⟨w2,hw2⟩:∃W,W=(w1.alloc (.cells #[.int .i64 ms,.int .i64 md,.int .i64 mk,.int .i64 mq,.int .i64 m0,.int .i64 m1,.int .i64 m2,.int .i64 m3] 3)).drew:=⟨_,rfl⟩
 have hb2:Below w1.heap.size w1 w2:=by rw[hw2];exact ((Br _ w1).alloc (Nr _) _).drew
 have HA2:Hid (w2.heap[A]? =some (.cells #[.int .i64 ms,.int .i64 md,.int .i64 mk,.int .i64 mq,.int .i64 m0,.int .i64 m1,.int .i64 m2,.int .i64 m3] 3 (0,0))):=Hj (by rw[hw2,hA];exact ((Br (w1.alloc (.cells #[.int .i64 ms,.int .i64 md,.int .i64 mk,.int .i64 mq,.int .i64 m0,.int .i64 m1,.int .i64 m2,.int .i64 m3] 3)).heap.size _).drew.block _ (by simp)).trans (heap_alloc_new w1 _))
 have HS2:Hid (SameB [M] w1.drew w2):=Hj (same_below' HS1.out (show Below w1.drew.heap.size w1.drew w2 by rw[hw2];exact (Br w1.drew.heap.size w1.drew).alloc (Nr _) _))
 have HBL2:=Hj (HBL1.out.trans (hb2.mono HBL1.out.size))
 have HM2:=Hj ((hb2.block M hMl).trans HM1.out)
 rw[←hw2,←hA]
 have HD2:=Hj (Rb HD1.out hb2)
 have hz12:=hb2.size
 clear hw2 hA hb2 m_8
 refine Sm (Ss HS2.out) ?_
 try simp only[pick,Gs,Gz]
 go_wp2
 refine Rm ?_
 refine Wq ?_
 try simp only[pick,Gs,Gz]
 go_wp2_with fail
 refine (rplain_any _ [ms,md,mk,mq,m0,m1,m2,m3] _ (by simp) HF.out (slI_box (ns:=[ms,md,mk,mq,m0,m1,m2,m3]) (off:=0) HA2.out (by simp) (fun j hj=>by match j,hj with | 0,_=>rfl | 1,_=>rfl | 2,_=>rfl | 3,_=>rfl | 4,_=>rfl | 5,_=>rfl | 6,_=>rfl | 7,_=>rfl) (by simp))).mono ?_
 rintro e w3 ⟨v3,rfl,hr3,hb3⟩
 have hM2:=HBL2.out.size
 have hM3:=hb3.size
 have HM3:=Hj (Kb hb3 HM2.out)
 have HS3:=Hj (same_below' HS2.out hb3)
 have HBL3:=Hj (HBL2.out.trans (hb3.mono HBL2.out.size))
 obtain ⟨a3,c3,rfl⟩:=Oq hr3
 have hl3:=enc_flat (l:=[ms,md,mk,mq,m0,m1,m2,m3]) HF.out
 obtain ⟨l3,hl3e⟩:∃l,[ms,md,mk,mq,m0,m1,m2,m3].flatMap encI=l:=⟨_,rfl⟩
 rw[hl3e] at hr3 hl3
 have HL3:=Hj hl3e
 have HR3:Hid (BRow 5 w3 w2.heap.size (.slice a3 l3.length c3) l3):=Hj hr3
 rw[HL3.out]
 have m_8:=Bj HM3.out 8 rfl
 have HD3:=Hj (Rb HD2.out hb3)
 clear hr3 hb3 hl3e
 go_wp2
 refine Sm (Ss HS3.out) ?_
 try simp only[pick,Gs,Gz]
 go_wp2
 refine Rm ?_
 refine Wq ?_
 try simp only[pick,Gs,Gz]
 go_wp2_with fail
 refine (rbytes_any _ d w3 (by omega) HD3.out).mono ?_
 rintro e w4 ⟨v4,rfl,hr4,hb4⟩
 have HM4:=Hj (Kb hb4 HM3.out)
 have HS4:=Hj (same_below' HS3.out hb4)
 have HBL4:=Hj (HBL3.out.trans (hb4.mono HBL3.out.size))
 have HR34:=Hj (HR3.out.below hb4)
 obtain ⟨a4,c4,rfl⟩:=Oq hr4
 have HX4:=Hj (Bytes.row (F:=[]) hr4 rfl (fun f hf=>by cases hf))
 have hz4:=hb4.size
 have hl4:(encB d).length≤100020:=by unfold encB;have:=encI_len (show fits (d.length:Int) by unfold fits;omega);rw[List.length_append];omega
 clear hr4 hb4 m_8
 have m_8:=Bj HM4.out 8 rfl
 have hw24:w2.heap.size≤w4.heap.size:=by omega
 go_wp2
 refine Sm (Ss HS4.out) ?_
 try simp only[pick,Gs,Gz]
 go_wp2
 refine Rm ?_
 refine Wq ?_
 try simp only[pick,Gs,Gz]
 go_wp2_with (at_builtin;refine wpList_appF elB Tryz.underlying22 HR34.out HX4.out (Br w2.heap.size w4) rfl _ _ rfl rfl rfl ?c3 ?cB ?c5 ?_)
 case c3=>simp only[List.length_cons,List.length_nil] at hl3;omega
 case cB=>exact Nr _
 case c5=>exact hw24
 intro v5 w5 hown5 hb5 hk5 hn5
 have hr5:BRow 5 w5 w2.heap.size v5 (encM ms md mk mq m0 m1 m2 m3 d):=by
  have:=brow_app rfl hown5
  rw[←HL3.out] at this
  have e:[ms,md,mk,mq,m0,m1,m2,m3].flatMap encI++encB d=encM ms md mk mq m0 m1 m2 m3 d:=by unfold encM;simp[List.flatMap_cons]
  rw[e] at this
  exact this
 have HS5:=Hj (same_keep HS4.out hk5 (fun q hq hm=>by rw[M1' hq] at hm;have:=HR34.out.lt M (by simpa using hm);have:=hMl;omega))
 have HR5:=Hj (own_base hr5 (show w.heap.size≤w2.heap.size from HBL2.out.size))
 have HB5:=Hj (HBL4.out.trans (hb5.mono HBL2.out.size))
 clear hown5 hb5 hk5 hn5 hr5
 go_wp2
 refine Sm (Ss HS5.out) ?_
 try simp only[pick,Gs,Gz]
 go_wp2
 refine Rm ?_
 refine Wd (by rfl) ⟨.head _,trivial⟩ ?_
 go_wp2
 go_ret
 exact ⟨_,rfl,HR5.out,HB5.out⟩
end Go.Proofs.YtipiofgdjbogiaaGreat
