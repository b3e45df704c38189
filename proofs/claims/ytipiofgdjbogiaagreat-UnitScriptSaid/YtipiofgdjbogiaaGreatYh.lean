/- UnitScript: the reference's unit: Outcomes, Inputs -/
import Derived.Test.YtipiofgdjbogiaaGreatYg
set_option maxRecDepth 100000
set_option maxHeartbeats 8000000
namespace Go.Im
open Go Go.Txt Go.RowKit Go.Bs Go.Cl Go.Rw Go.Un Go.Fa
theorem same_keepR {B:List Nat} {w0 w w':World} {g:Nat} (h:SameB B w0 w) (hk:Keep [g] w w') (hg:∀q∈B,q≠g):SameB B w0 w':=same_keep h hk (fun q hq hm=>hg q hq (M1' hm))
theorem keep_weak2 {w w':World} {R T:Nat} (h:Keep [R] w w'):Keep [R,T] w w':=⟨h.os,h.tape,h.output,h.size,fun k hk hn=>h.block k hk (fun hm=>hn (by simp at hm;simp[hm]))⟩
end Go.Im
namespace Go.Proofs.YtipiofgdjbogiaaGreat
open Go.Txt Go.RowKit Go.Bs Go.Cl Go.Rw Go.Un Go.Im Go.Fa Go.Wi
theorem routcomes31_any {F:List Nat} (v:Value) (x:Us) (img:List UInt8) (ver:Nat) (p:FP) (a b:Oc) (i1 e1 i2 e2:Value) (w:World) (hal:a.im.length≤24000) (hael:a.ef.length≤24000) (hbl:b.im.length≤24000) (hbel:b.ef.length≤24000) (hv:RUV F w v x img ver) (hI1:Bytes F w i1 a.im) (hE1:Bytes F w e1 a.ef) (hI2:Bytes F w i2 b.im) (hE2:Bytes F w e2 b.ef):
  Calls Tryz.prog 17 #[v,.agg p.cs,.agg #[.int .i64 a.en,.int .i64 a.st,.int .i64 a.er,i1,e1],.agg #[.int .i64 b.en,.int .i64 b.st,.int .i64 b.er,i2,e2]] w fun e w'=>∃fa fb ia ea ib eb,fa=fout (qof x p) 0 a∧fb=fout (qof x p) 1 b∧e= .returned (.tuple #[.agg #[.int .i64 fa.en,.int .i64 fa.st,.int .i64 fa.er,ia,ea],.agg #[.int .i64 fb.en,.int .i64 fb.st,.int .i64 fb.er,ib,eb]])∧w'.ownsRow w.heap.size 5 1 ia fa.im.length (bytesV fa.im)∧w'.ownsRow w.heap.size 5 1 ea fa.ef.length (bytesV fa.ef)∧w'.ownsRow w.heap.size 5 1 ib fb.im.length (bytesV fb.im)∧w'.ownsRow w.heap.size 5 1 eb fb.ef.length (bytesV fb.ef)∧Below w.heap.size w w':=by
 simp only[FP.cs]
 obtain ⟨iv,wv,nv,tv,lv,rfl,hiv,hwv,hnv,htv,hlv⟩:=hv
 obtain ⟨ia,ic,rfl⟩:=Rs hiv
 obtain ⟨wa,wc,rfl⟩:=Rs hwv
 obtain ⟨na,nc,rfl⟩:=Rs hnv
 obtain ⟨ta,tc,rfl⟩:=htv.slice
 obtain ⟨la,lc,rfl⟩:=Rs hlv
 simp only[RUc,List.length_nil] at hnv htv⊢
 have HIV:=Hj hiv;have HWV:=Hj hwv;have HNV:=Hj hnv;have HTV:=Hj htv;have HLV:=Hj hlv
 clear hiv hwv hnv htv hlv
 obtain ⟨ai,ac,rfl⟩:=Rs hI1
 obtain ⟨ae,aec,rfl⟩:=Rs hE1
 obtain ⟨bi,bc,rfl⟩:=Rs hI2
 obtain ⟨be,bec,rfl⟩:=Rs hE2
 have HI1:=Hj hI1;have HE1:=Hj hE1;have HI2:=Hj hI2;have HE2:=Hj hE2
 clear hI1 hE1 hI2 hE2
 obtain ⟨w1,hw1⟩:∃W,W=w.alloc (.cells #[.int .i64 x.task,.slice ia img.length ic,.slice wa img.length wc,.slice na 0 nc,.int .i64 ver,.bool false,.bool false,.slice ta 0 tc,.slice la x.led.length lc,.int .i64 x.num,.int .i64 x.att,.int .i64 x.i0,.int .i64 x.i1,.int .i64 x.gr,.bool x.down,.int .i64 x.lost] 36):=⟨_,rfl⟩
 obtain ⟨w2,hw2⟩:∃W,W=w1.alloc (.cells #[.int .i64 p.c,.int .i64 p.n,.int .i64 p.e,.int .i64 p.k,.int .i64 p.s,.int .i64 p.pl,.int .i64 p.m] 41):=⟨_,rfl⟩
 obtain ⟨w3,hw3⟩:∃W,W=w2.alloc (.cells #[.int .i64 a.en,.int .i64 a.st,.int .i64 a.er,.slice ai a.im.length ac,.slice ae a.ef.length aec] 46):=⟨_,rfl⟩
 obtain ⟨w4,hw4⟩:∃W,W=w3.alloc (.cells #[.int .i64 b.en,.int .i64 b.st,.int .i64 b.er,.slice bi b.im.length bc,.slice be b.ef.length bec] 46):=⟨_,rfl⟩
 obtain ⟨w5,hw5⟩:∃W,W=w4.alloc (.cells #[.int .i64 0,.int .i64 0,.int .i64 0,.slice none 0 0,.slice none 0 0] 46):=⟨_,rfl⟩
 obtain ⟨w6,hw6⟩:∃W,W=w5.alloc (.cells #[.int .i64 0,.int .i64 0,.int .i64 0,.slice none 0 0,.slice none 0 0] 46):=⟨_,rfl⟩
 have z1:w1.heap.size=w.heap.size+1:=by rw[hw1];simp
 have z2:w2.heap.size=w.heap.size+1+1:=by rw[hw2];simp[z1]
 have z3:w3.heap.size=w.heap.size+1+1+1:=by rw[hw3];simp[z2]
 have z4:w4.heap.size=w.heap.size+1+1+1+1:=by rw[hw4];simp[z3]
 have z5:w5.heap.size=w.heap.size+1+1+1+1+1:=by rw[hw5];simp[z4]
 have z6:w6.heap.size=w.heap.size+1+1+1+1+1+1:=by rw[hw6];simp[z5]
 have b1:Below w.heap.size w w1:=by rw[hw1];exact (Br _ w).alloc (Nr _) _
 have n1:w1.heap[w.heap.size]? =some (.cells #[.int .i64 x.task,.slice ia img.length ic,.slice wa img.length wc,.slice na 0 nc,.int .i64 ver,.bool false,.bool false,.slice ta 0 tc,.slice la x.led.length lc,.int .i64 x.num,.int .i64 x.att,.int .i64 x.i0,.int .i64 x.i1,.int .i64 x.gr,.bool x.down,.int .i64 x.lost] 36 (0,0)):=by rw[hw1];exact heap_alloc_new w _
 have b2:Below w1.heap.size w1 w2:=by rw[hw2];exact (Br _ w1).alloc (Nr _) _
 have n2:w2.heap[w.heap.size+1]? =some (.cells #[.int .i64 p.c,.int .i64 p.n,.int .i64 p.e,.int .i64 p.k,.int .i64 p.s,.int .i64 p.pl,.int .i64 p.m] 41 (0,0)):=by rw[hw2,←z1];exact heap_alloc_new w1 _
 have b3:Below w2.heap.size w2 w3:=by rw[hw3];exact (Br _ w2).alloc (Nr _) _
 have n3:w3.heap[w.heap.size+1+1]? =some (.cells #[.int .i64 a.en,.int .i64 a.st,.int .i64 a.er,.slice ai a.im.length ac,.slice ae a.ef.length aec] 46 (0,0)):=by rw[hw3,←z2];exact heap_alloc_new w2 _
 have b4:Below w3.heap.size w3 w4:=by rw[hw4];exact (Br _ w3).alloc (Nr _) _
 have n4:w4.heap[w.heap.size+1+1+1]? =some (.cells #[.int .i64 b.en,.int .i64 b.st,.int .i64 b.er,.slice bi b.im.length bc,.slice be b.ef.length bec] 46 (0,0)):=by rw[hw4,←z3];exact heap_alloc_new w3 _
 have b5:Below w4.heap.size w4 w5:=by rw[hw5];exact (Br _ w4).alloc (Nr _) _
 have n5:w5.heap[w.heap.size+1+1+1+1]? =some (.cells #[.int .i64 0,.int .i64 0,.int .i64 0,.slice none 0 0,.slice none 0 0] 46 (0,0)):=by rw[hw5,←z4];exact heap_alloc_new w4 _
 have b6:Below w5.heap.size w5 w6:=by rw[hw6];exact (Br _ w5).alloc (Nr _) _
 have n6:w6.heap[w.heap.size+1+1+1+1+1]? =some (.cells #[.int .i64 0,.int .i64 0,.int .i64 0,.slice none 0 0,.slice none 0 0] 46 (0,0)):=by rw[hw6,←z5];exact heap_alloc_new w5 _
 have t1:=b1
 have t2:=t1.trans (b2.mono t1.size)
 have t3:=t2.trans (b3.mono t2.size)
 have t4:=t3.trans (b4.mono t3.size)
 have t5:=t4.trans (b5.mono t4.size)
 have t6:=t5.trans (b6.mono t5.size)
 have HU6:=Hj ((b6.block _ (by omega)).trans ((b5.block _ (by omega)).trans ((b4.block _ (by omega)).trans ((b3.block _ (by omega)).trans ((b2.block _ (by omega)).trans (n1))))))
 have HP6:=Hj ((b6.block _ (by omega)).trans ((b5.block _ (by omega)).trans ((b4.block _ (by omega)).trans ((b3.block _ (by omega)).trans (n2)))))
 have HA6:=Hj ((b6.block _ (by omega)).trans ((b5.block _ (by omega)).trans ((b4.block _ (by omega)).trans (n3))))
 have HB6:=Hj ((b6.block _ (by omega)).trans ((b5.block _ (by omega)).trans (n4)))
 have HR6:=Hj ((b6.block _ (by omega)).trans (n5))
 have HT6:=Hj (n6)
 have HW1:=Hj hw1
 have HW2:=Hj hw2
 have HW3:=Hj hw3
 have HW4:=Hj hw4
 have HW5:=Hj hw5
 have HW6:=Hj hw6
 have bel6:=t6
 have hz6:=t6.size
 clear hw1 b1 n1 t1 hw2 b2 n2 t2 hw3 b3 n3 t3 hw4 b4 n4 t4 hw5 b5 n5 t5 hw6 b6 n6 t6
 go_enter Tryz.func17,Tryz.ntmps17
 go_upto_region 1 with (fail)
 rw[←HW1.out,←HW2.out,←HW3.out,←HW4.out,←HW5.out,←HW6.out]
 obtain ⟨U,hU⟩:∃A,A=w.heap.size:=⟨_,rfl⟩
 obtain ⟨P,hP⟩:∃A,A=w.heap.size+1:=⟨_,rfl⟩
 obtain ⟨A,hA⟩:∃A,A=w.heap.size+1+1:=⟨_,rfl⟩
 obtain ⟨B,hB⟩:∃A,A=w.heap.size+1+1+1:=⟨_,rfl⟩
 obtain ⟨R,hR⟩:∃A,A=w.heap.size+1+1+1+1:=⟨_,rfl⟩
 obtain ⟨T,hT⟩:∃A,A=w.heap.size+1+1+1+1+1:=⟨_,rfl⟩
 rw[←hT,←hR,←hB,←hA,←hP,←hU]
 rw[←hU] at HU6
 rw[←hP] at HP6
 rw[←hA] at HA6
 rw[←hB] at HB6
 rw[←hR] at HR6
 rw[←hT] at HT6
 have qU:w.heap.size≤U:=by omega
 have lU:U<w6.heap.size:=by omega
 have qP:w.heap.size≤P:=by omega
 have lP:P<w6.heap.size:=by omega
 have qA:w.heap.size≤A:=by omega
 have lA:A<w6.heap.size:=by omega
 have qB:w.heap.size≤B:=by omega
 have lB:B<w6.heap.size:=by omega
 have qR:w.heap.size≤R:=by omega
 have lR:R<w6.heap.size:=by omega
 have qT:w.heap.size≤T:=by omega
 have lT:T<w6.heap.size:=by omega
 have dU:U<P:=by omega
 have dP:P<A:=by omega
 have dA:A<B:=by omega
 have dB:B<R:=by omega
 have dR:R<T:=by omega
 clear hU hP hA hB hR hT z1 HW1 z2 HW2 z3 HW3 z4 HW4 z5 HW5 z6 HW6
 have HSZ6:=Hj (Nr w6.heap.size)
 have HRUV:Hid (RUV F w (.agg #[.int .i64 x.task,.slice ia img.length ic,.slice wa img.length wc,.slice na 0 nc,.int .i64 ver,.bool false,.bool false,.slice ta 0 tc,.slice la x.led.length lc,.int .i64 x.num,.int .i64 x.att,.int .i64 x.i0,.int .i64 x.i1,.int .i64 x.gr,.bool x.down,.int .i64 x.lost]) x img ver):=Hj ⟨_,_,_,_,_,rfl,HIV.out,HWV.out,HNV.out,HTV.out,HLV.out⟩
 go_upto_region 1 with (fail)
 have HBL6:Hid (∀q∈[U,P,A,B],∃cc e f,w6.heap[q]? =some (.cells cc e f)):=Hj (by
  intro q hq
  simp only[List.mem_cons,List.not_mem_nil,or_false] at hq
  rcases hq with rfl | rfl | rfl | rfl <;> first | exact ⟨_,_,_,HU6.out⟩ | exact ⟨_,_,_,HP6.out⟩ | exact ⟨_,_,_,HA6.out⟩ | exact ⟨_,_,_,HB6.out⟩)
 have hBl:=show∀q∈[U,P,A,B],∃cc e f,w6.heap[q]? =some (.cells cc e f) from HBL6.out
 clear HBL6
 refine Ty.wp_tree [U,P,A,B] [3,5,6,8] [] [0,1,3,5,6,8] [0,1,3,5,6,8] (.alt [2] (.alt [4] (.alt [7] (.alt [9] (.alt [10] (.alt [11] (.done) (.no)) (.no)) (.no)) (.no)) (.no)) (.no)) (by kernel_rfl) (by kernel_rfl) (by kernel_rfl) (by kernel_rfl) hBl ?_
 obtain ⟨w7,hwd⟩:∃y,y=w6.drew:=⟨_,rfl⟩
 have HS7:Hid (SameB [U,P,A,B] w7 w7):=Hj (by rw[hwd];exact same_start hBl)
 clear hBl
 rw[←hwd]
 have hdr:Below w6.heap.size w6 w7:=by rw[hwd];exact (Br _ _).drew
 have HU7:=Hj (Kb hdr HU6.out)
 have HP7:=Hj (Kb hdr HP6.out)
 have HA7:=Hj (Kb hdr HA6.out)
 have HB7:=Hj (Kb hdr HB6.out)
 have HR7:=Hj (Kb hdr HR6.out)
 have HT7:=Hj (Kb hdr HT6.out)
 have HSZ7:=Hj (Nat.le_trans HSZ6.out (hdr).size)
 clear HU6 HP6 HA6 HB6 HR6 HT6 HSZ6
 have bel7:=bel6.trans (hdr.mono bel6.size)
 clear hdr hwd
 try simp only[pick,Gs,Gz]
 go_wp2_with (first | refine wpList_load_row rfl 36 _ rfl U rfl 36 #[.int .i64 x.task,.slice ia img.length ic,.slice wa img.length wc,.slice na 0 nc,.int .i64 ver,.bool false,.bool false,.slice ta 0 tc,.slice la x.led.length lc,.int .i64 x.num,.int .i64 x.att,.int .i64 x.i0,.int .i64 x.i1,.int .i64 x.gr,.bool x.down,.int .i64 x.lost] (0,0) _ HU7.out Tryz.underlying36 rfl (by kernel_rfl) ?_ | refine wpList_load_row rfl 41 _ rfl P rfl 41 #[.int .i64 p.c,.int .i64 p.n,.int .i64 p.e,.int .i64 p.k,.int .i64 p.s,.int .i64 p.pl,.int .i64 p.m] (0,0) _ HP7.out Tryz.underlying41 rfl (by kernel_rfl) ?_ | refine wpList_load_row rfl 46 _ rfl A rfl 46 #[.int .i64 a.en,.int .i64 a.st,.int .i64 a.er,.slice ai a.im.length ac,.slice ae a.ef.length aec] (0,0) _ HA7.out Tryz.underlying46 rfl (by kernel_rfl) ?_ | refine wpList_load_row rfl 46 _ rfl B rfl 46 #[.int .i64 b.en,.int .i64 b.st,.int .i64 b.er,.slice bi b.im.length bc,.slice be b.ef.length bec] (0,0) _ HB7.out Tryz.underlying46 rfl (by kernel_rfl) ?_)
 refine Rm ?_
 refine Wq ?_
 try simp only[pick,Gs,Gz]
 go_wp2_with fail
 refine (rhits31_any _ x img ver p _ (HRUV.out.below bel7)).mono ?_
 rintro e w8 ⟨rfl,hb8⟩
 have HU8:=Hj (Kb hb8 HU7.out)
 have HP8:=Hj (Kb hb8 HP7.out)
 have HA8:=Hj (Kb hb8 HA7.out)
 have HB8:=Hj (Kb hb8 HB7.out)
 have HR8:=Hj (Kb hb8 HR7.out)
 have HT8:=Hj (Kb hb8 HT7.out)
 have HSZ8:=Hj (Nat.le_trans HSZ7.out (hb8).size)
 clear HU7 HP7 HA7 HB7 HR7 HT7 HSZ7
 have bel8:=bel7.trans (hb8.mono bel7.size)
 have HS8:=Hj (same_below' HS7.out hb8)
 clear hb8
 go_wp2
 refine Sm (Ss HS8.out) ?_
 try simp only[pick,Gs,Gz]
 go_wp2
 refine Rm ?_
 refine Wq ?_
 try simp only[pick,Gs,Gz]
 have hsz8:=HSZ8.out
 go_wp2_with fail
 refine (routput_any F (qof x p) 0 a _ _ _ hal hael (Rb HI1.out bel8) (Rb HE1.out bel8)).mono ?_
 rintro e w9 ⟨v9,v9e,rfl,o9,p9,hb9⟩
 have HU9:=Hj (Kb hb9 HU8.out)
 have HP9:=Hj (Kb hb9 HP8.out)
 have HA9:=Hj (Kb hb9 HA8.out)
 have HB9:=Hj (Kb hb9 HB8.out)
 have HR9:=Hj (Kb hb9 HR8.out)
 have HT9:=Hj (Kb hb9 HT8.out)
 have HSZ9:=Hj (Nat.le_trans HSZ8.out (hb9).size)
 clear HU8 HP8 HA8 HB8 HR8 HT8 HSZ8
 have bel9:=bel8.trans (hb9.mono bel8.size)
 have HS9:=Hj (same_below' HS8.out hb9)
 have hzz9:=(show w6.heap.size≤w8.heap.size from hsz8)
 obtain ⟨fa,hfa⟩:∃f,f=fout (qof x p) 0 a:=⟨_,rfl⟩
 rw[←hfa] at o9 p9⊢
 obtain ⟨aj,ajc,rfl⟩:=Oq o9
 obtain ⟨ak,akc,rfl⟩:=Oq p9
 have HFa:=Hj hfa
 have HXa9:=Hj (own_base o9 hzz9)
 have HYa9:=Hj (own_base p9 hzz9)
 clear hfa o9 p9 hb9 hzz9
 go_wp2
 refine Sm (Ss HS9.out) ?_
 try simp only[pick,Gs,Gz]
 go_wp2
 refine Rm ?_
 refine Wq ?_
 try simp only[pick,Gs,Gz]
 go_wp2_with fail
 refine (rhits31_any _ x img ver p _ (HRUV.out.below bel9)).mono ?_
 rintro e w10 ⟨rfl,hb10⟩
 have HU10:=Hj (Kb hb10 HU9.out)
 have HP10:=Hj (Kb hb10 HP9.out)
 have HA10:=Hj (Kb hb10 HA9.out)
 have HB10:=Hj (Kb hb10 HB9.out)
 have HR10:=Hj (Kb hb10 HR9.out)
 have HT10:=Hj (Kb hb10 HT9.out)
 have HSZ10:=Hj (Nat.le_trans HSZ9.out (hb10).size)
 have HXa10:=Hj (own_below HXa9.out hb10 (Nr _))
 have HYa10:=Hj (own_below HYa9.out hb10 (Nr _))
 clear HU9 HP9 HA9 HB9 HR9 HT9 HSZ9 HXa9 HYa9
 have bel10:=bel9.trans (hb10.mono bel9.size)
 have HS10:=Hj (same_below' HS9.out hb10)
 clear hb10
 go_wp2
 refine Sm (Ss HS10.out) ?_
 try simp only[pick,Gs,Gz]
 go_wp2
 refine Rm ?_
 refine Wq ?_
 try simp only[pick,Gs,Gz]
 have hsz10:=HSZ10.out
 go_wp2_with fail
 refine (routput_any F (qof x p) 1 b _ _ _ hbl hbel (Rb HI2.out bel10) (Rb HE2.out bel10)).mono ?_
 rintro e w11 ⟨v11,v11e,rfl,o11,p11,hb11⟩
 have HU11:=Hj (Kb hb11 HU10.out)
 have HP11:=Hj (Kb hb11 HP10.out)
 have HA11:=Hj (Kb hb11 HA10.out)
 have HB11:=Hj (Kb hb11 HB10.out)
 have HR11:=Hj (Kb hb11 HR10.out)
 have HT11:=Hj (Kb hb11 HT10.out)
 have HSZ11:=Hj (Nat.le_trans HSZ10.out (hb11).size)
 have HXa11:=Hj (own_below HXa10.out hb11 (Nr _))
 have HYa11:=Hj (own_below HYa10.out hb11 (Nr _))
 clear HU10 HP10 HA10 HB10 HR10 HT10 HSZ10 HXa10 HYa10
 have bel11:=bel10.trans (hb11.mono bel10.size)
 have HS11:=Hj (same_below' HS10.out hb11)
 have hzz11:=(show w6.heap.size≤w10.heap.size from hsz10)
 obtain ⟨fb,hfb⟩:∃f,f=fout (qof x p) 1 b:=⟨_,rfl⟩
 rw[←hfb] at o11 p11⊢
 obtain ⟨bj,bjc,rfl⟩:=Oq o11
 obtain ⟨bk,bkc,rfl⟩:=Oq p11
 have HFb:=Hj hfb
 have HXb11:=Hj (own_base o11 hzz11)
 have HYb11:=Hj (own_base p11 hzz11)
 clear hfb o11 p11 hb11 hzz11
 go_wp2
 refine Sm (Ss HS11.out) ?_
 try simp only[pick,Gs,Gz]
 go_wp2
 refine Rm ?_
 refine Wq ?_
 try simp only[pick,Gs,Gz]
 go_wp2_with (refine wpList_store_row rfl 46 _ _ rfl R #[.int .i64 fa.en,.int .i64 fa.st,.int .i64 fa.er,.slice aj fa.im.length ajc,.slice ak fa.ef.length akc] rfl rfl 46 #[.int .i64 0,.int .i64 0,.int .i64 0,.slice none 0 0,.slice none 0 0] HR11.out (by kernel_rfl) rfl (by kernel_rfl) ?_)
 obtain ⟨w12,hN⟩:∃X,X=w11.setRow R #[.int .i64 fa.en,.int .i64 fa.st,.int .i64 fa.er,.slice aj fa.im.length ajc,.slice ak fa.ef.length akc]:=⟨_,rfl⟩
 rw[←hN]
 have hNk:Keep [R] w11 w12:=by rw[hN];exact keep_setRow _ _ _
 have HR12:Hid (w12.heap[R]? =some (.cells #[.int .i64 fa.en,.int .i64 fa.st,.int .i64 fa.er,.slice aj fa.im.length ajc,.slice ak fa.ef.length akc] 46 (0,0))):=Hj (by rw[hN];exact setRow_heap _ _ _ _ _ _ HR11.out)
 have hNz:=hNk.size
 have HU12:=Hj ((hNk.block U (Al HU11.out) (by simp;omega)).trans HU11.out)
 have HP12:=Hj ((hNk.block P (Al HP11.out) (by simp;omega)).trans HP11.out)
 have HA12:=Hj ((hNk.block A (Al HA11.out) (by simp;omega)).trans HA11.out)
 have HB12:=Hj ((hNk.block B (Al HB11.out) (by simp;omega)).trans HB11.out)
 have HT12:=Hj ((hNk.block T (Al HT11.out) (by simp;omega)).trans HT11.out)
 have HSZ12:=Hj (Nat.le_trans HSZ11.out hNz)
 have HXa12:=Hj (own_keep HXa11.out hNk (Ow HXa11.out (by omega)))
 have HYa12:=Hj (own_keep HYa11.out hNk (Ow HYa11.out (by omega)))
 have HXb12:=Hj (own_keep HXb11.out hNk (Ow HXb11.out (by omega)))
 have HYb12:=Hj (own_keep HYb11.out hNk (Ow HYb11.out (by omega)))
 clear hN HU11 HP11 HA11 HB11 HR11 HT11 HSZ11 HXa11 HYa11 HXb11 HYb11
 have bel12:Below w.heap.size w w12:=below_keep bel11 hNk (fun f hf=>by rw[M1' hf];exact qR)
 have HK12:=Hj hNk
 clear hNk
 have HS12:=Hj (same_keepR HS11.out (w':=w12) (g:=R) HK12.out (by intro q hq;simp only[List.mem_cons,List.not_mem_nil,or_false] at hq;omega))
 refine Sm (Ss HS12.out) ?_
 try simp only[pick,Gs,Gz]
 go_wp2
 refine Rm ?_
 refine Wq ?_
 try simp only[pick,Gs,Gz]
 go_wp2_with (refine wpList_store_row rfl 46 _ _ rfl T #[.int .i64 fb.en,.int .i64 fb.st,.int .i64 fb.er,.slice bj fb.im.length bjc,.slice bk fb.ef.length bkc] rfl rfl 46 #[.int .i64 0,.int .i64 0,.int .i64 0,.slice none 0 0,.slice none 0 0] HT12.out (by kernel_rfl) rfl (by kernel_rfl) ?_)
 obtain ⟨w13,hN⟩:∃X,X=w12.setRow T #[.int .i64 fb.en,.int .i64 fb.st,.int .i64 fb.er,.slice bj fb.im.length bjc,.slice bk fb.ef.length bkc]:=⟨_,rfl⟩
 rw[←hN]
 have hNk:Keep [T] w12 w13:=by rw[hN];exact keep_setRow _ _ _
 have HT13:Hid (w13.heap[T]? =some (.cells #[.int .i64 fb.en,.int .i64 fb.st,.int .i64 fb.er,.slice bj fb.im.length bjc,.slice bk fb.ef.length bkc] 46 (0,0))):=Hj (by rw[hN];exact setRow_heap _ _ _ _ _ _ HT12.out)
 have hNz:=hNk.size
 have HU13:=Hj ((hNk.block U (Al HU12.out) (by simp;omega)).trans HU12.out)
 have HP13:=Hj ((hNk.block P (Al HP12.out) (by simp;omega)).trans HP12.out)
 have HA13:=Hj ((hNk.block A (Al HA12.out) (by simp;omega)).trans HA12.out)
 have HB13:=Hj ((hNk.block B (Al HB12.out) (by simp;omega)).trans HB12.out)
 have HR13:=Hj ((hNk.block R (Al HR12.out) (by simp;omega)).trans HR12.out)
 have HSZ13:=Hj (Nat.le_trans HSZ12.out hNz)
 have HXa13:=Hj (own_keep HXa12.out hNk (Ow HXa12.out (by omega)))
 have HYa13:=Hj (own_keep HYa12.out hNk (Ow HYa12.out (by omega)))
 have HXb13:=Hj (own_keep HXb12.out hNk (Ow HXb12.out (by omega)))
 have HYb13:=Hj (own_keep HYb12.out hNk (Ow HYb12.out (by omega)))
 clear hN HU12 HP12 HA12 HB12 HR12 HT12 HSZ12 HXa12 HYa12 HXb12 HYb12
 have bel13:Below w.heap.size w w13:=below_keep bel12 hNk (fun f hf=>by rw[M1' hf];exact qT)
 have HK13:=Hj hNk
 clear hNk
 have HS13:=Hj (same_keepR HS12.out (w':=w13) (g:=T) HK13.out (by intro q hq;simp only[List.mem_cons,List.not_mem_nil,or_false] at hq;omega))
 refine Sm (Ss HS13.out) ?_
 try simp only[pick,Gs,Gz]
 go_wp2
 refine Rm ?_
 refine Wd (by rfl) ⟨.tail _ (.tail _ (.head _)),.head _,.tail _ (.head _),.tail _ (.tail _ (.tail _ (.head _))),trivial⟩ ?_
 go_wp2
 refine bodyPost_ret (results_cc rfl _ _ _ _ _ _ _ _ _ rfl HR13.out rfl HT13.out Tryz.underlying46 rfl (by kernel_rfl) (by kernel_rfl)) rfl ?_
 exact ⟨fa,fb,_,_,_,_,HFa.out,HFb.out,rfl,own_base HXa13.out hz6,own_base HYa13.out hz6,own_base HXb13.out hz6,own_base HYb13.out hz6,bel13⟩
theorem rinputs31_any {F:List Nat} (v:Value) (x:Us) (img:List UInt8) (ver:Nat) (p:FP) (ms md mk mq m0 m1 m2 m3:Int) (mv:Value) (d:List UInt8) (w:World) (hf:∀x∈[ms,md,mk,mq,m0,m1,m2,m3],fits x) (hd:d.length≤1000) (hD:Bytes F w mv d) (him:img.length≤24000) (hv:RUV F w v x img ver):
  Calls Tryz.prog 12 #[v,.agg p.cs,.agg #[.int .i64 ms,.int .i64 md,.int .i64 mk,.int .i64 mq,.int .i64 m0,.int .i64 m1,.int .i64 m2,.int .i64 m3,mv]] w fun e w'=>∃i0 i1 t0 t1,e= .returned (.tuple #[.agg #[i0,i1],.agg #[t0,t1]])∧OW w.heap.size w' i0 (finp (qof x p) 0 img (encM ms md mk mq m0 m1 m2 m3 d)).1∧OW w.heap.size w' i1 (finp (qof x p) 1 img (encM ms md mk mq m0 m1 m2 m3 d)).1∧OW w.heap.size w' t0 (finp (qof x p) 0 img (encM ms md mk mq m0 m1 m2 m3 d)).2∧OW w.heap.size w' t1 (finp (qof x p) 1 img (encM ms md mk mq m0 m1 m2 m3 d)).2∧Below w.heap.size w w':=by
 simp only[FP.cs]
 obtain ⟨iv,wv,nv,tv,lv,rfl,hiv,hwv,hnv,htv,hlv⟩:=hv
 obtain ⟨ia,ic,rfl⟩:=Rs hiv
 obtain ⟨wa,wc,rfl⟩:=Rs hwv
 obtain ⟨na,nc,rfl⟩:=Rs hnv
 obtain ⟨ta,tc,rfl⟩:=htv.slice
 obtain ⟨la,lc,rfl⟩:=Rs hlv
 simp only[RUc,List.length_nil] at hnv htv⊢
 have HIV:=Hj hiv;have HWV:=Hj hwv;have HNV:=Hj hnv;have HTV:=Hj htv;have HLV:=Hj hlv
 clear hiv hwv hnv htv hlv
 obtain ⟨da,dc,rfl⟩:=Rs hD
 have HD:=Hj hD
 have HFT:=Hj hf
 clear hD hf
 obtain ⟨w1,hw1⟩:∃W,W=w.alloc (.cells #[.int .i64 x.task,.slice ia img.length ic,.slice wa img.length wc,.slice na 0 nc,.int .i64 ver,.bool false,.bool false,.slice ta 0 tc,.slice la x.led.length lc,.int .i64 x.num,.int .i64 x.att,.int .i64 x.i0,.int .i64 x.i1,.int .i64 x.gr,.bool x.down,.int .i64 x.lost] 36):=⟨_,rfl⟩
 obtain ⟨w2,hw2⟩:∃W,W=w1.alloc (.cells #[.int .i64 p.c,.int .i64 p.n,.int .i64 p.e,.int .i64 p.k,.int .i64 p.s,.int .i64 p.pl,.int .i64 p.m] 41):=⟨_,rfl⟩
 obtain ⟨w3,hw3⟩:∃W,W=w2.alloc (.cells #[.int .i64 ms,.int .i64 md,.int .i64 mk,.int .i64 mq,.int .i64 m0,.int .i64 m1,.int .i64 m2,.int .i64 m3,.slice da d.length dc] 44):=⟨_,rfl⟩
 obtain ⟨w4,hw4⟩:∃W,W=w3.alloc (.cells #[.slice none 0 0,.slice none 0 0] 53):=⟨_,rfl⟩
 obtain ⟨w5,hw5⟩:∃W,W=w4.alloc (.cells #[.slice none 0 0,.slice none 0 0] 53):=⟨_,rfl⟩
 have z1:w1.heap.size=w.heap.size+1:=by rw[hw1];simp
 have z2:w2.heap.size=w.heap.size+1+1:=by rw[hw2];simp[z1]
 have z3:w3.heap.size=w.heap.size+1+1+1:=by rw[hw3];simp[z2]
 have z4:w4.heap.size=w.heap.size+1+1+1+1:=by rw[hw4];simp[z3]
 have z5:w5.heap.size=w.heap.size+1+1+1+1+1:=by rw[hw5];simp[z4]
 have b1:Below w.heap.size w w1:=by rw[hw1];exact (Br _ w).alloc (Nr _) _
 have n1:w1.heap[w.heap.size]? =some (.cells #[.int .i64 x.task,.slice ia img.length ic,.slice wa img.length wc,.slice na 0 nc,.int .i64 ver,.bool false,.bool false,.slice ta 0 tc,.slice la x.led.length lc,.int .i64 x.num,.int .i64 x.att,.int .i64 x.i0,.int .i64 x.i1,.int .i64 x.gr,.bool x.down,.int .i64 x.lost] 36 (0,0)):=by rw[hw1];exact heap_alloc_new w _
 have b2:Below w1.heap.size w1 w2:=by rw[hw2];exact (Br _ w1).alloc (Nr _) _
 have n2:w2.heap[w.heap.size+1]? =some (.cells #[.int .i64 p.c,.int .i64 p.n,.int .i64 p.e,.int .i64 p.k,.int .i64 p.s,.int .i64 p.pl,.int .i64 p.m] 41 (0,0)):=by rw[hw2,←z1];exact heap_alloc_new w1 _
 have b3:Below w2.heap.size w2 w3:=by rw[hw3];exact (Br _ w2).alloc (Nr _) _
 have n3:w3.heap[w.heap.size+1+1]? =some (.cells #[.int .i64 ms,.int .i64 md,.int .i64 mk,.int .i64 mq,.int .i64 m0,.int .i64 m1,.int .i64 m2,.int .i64 m3,.slice da d.length dc] 44 (0,0)):=by rw[hw3,←z2];exact heap_alloc_new w2 _
 have b4:Below w3.heap.size w3 w4:=by rw[hw4];exact (Br _ w3).alloc (Nr _) _
 have n4:w4.heap[w.heap.size+1+1+1]? =some (.cells #[.slice none 0 0,.slice none 0 0] 53 (0,0)):=by rw[hw4,←z3];exact heap_alloc_new w3 _
 have b5:Below w4.heap.size w4 w5:=by rw[hw5];exact (Br _ w4).alloc (Nr _) _
 have n5:w5.heap[w.heap.size+1+1+1+1]? =some (.cells #[.slice none 0 0,.slice none 0 0] 53 (0,0)):=by rw[hw5,←z4];exact heap_alloc_new w4 _
 have t1:=b1
 have t2:=t1.trans (b2.mono t1.size)
 have t3:=t2.trans (b3.mono t2.size)
 have t4:=t3.trans (b4.mono t3.size)
 have t5:=t4.trans (b5.mono t4.size)
 have HU5:=Hj ((b5.block _ (by omega)).trans ((b4.block _ (by omega)).trans ((b3.block _ (by omega)).trans ((b2.block _ (by omega)).trans (n1)))))
 have HP5:=Hj ((b5.block _ (by omega)).trans ((b4.block _ (by omega)).trans ((b3.block _ (by omega)).trans (n2))))
 have HM5:=Hj ((b5.block _ (by omega)).trans ((b4.block _ (by omega)).trans (n3)))
 have HR5:=Hj ((b5.block _ (by omega)).trans (n4))
 have HT5:=Hj (n5)
 have HW1:=Hj hw1
 have HW2:=Hj hw2
 have HW3:=Hj hw3
 have HW4:=Hj hw4
 have HW5:=Hj hw5
 have bel5:=t5
 have hz5:=t5.size
 clear hw1 b1 n1 t1 hw2 b2 n2 t2 hw3 b3 n3 t3 hw4 b4 n4 t4 hw5 b5 n5 t5
 go_enter Tryz.func12,Tryz.ntmps12
 go_upto_region 1 with (fail)
 rw[←HW1.out,←HW2.out,←HW3.out,←HW4.out,←HW5.out]
 obtain ⟨U,hU⟩:∃A,A=w.heap.size:=⟨_,rfl⟩
 obtain ⟨P,hP⟩:∃A,A=w.heap.size+1:=⟨_,rfl⟩
 obtain ⟨M,hM⟩:∃A,A=w.heap.size+1+1:=⟨_,rfl⟩
 obtain ⟨R,hR⟩:∃A,A=w.heap.size+1+1+1:=⟨_,rfl⟩
 obtain ⟨T,hT⟩:∃A,A=w.heap.size+1+1+1+1:=⟨_,rfl⟩
 rw[←hT,←hR,←hM,←hP,←hU]
 rw[←hU] at HU5
 rw[←hP] at HP5
 rw[←hM] at HM5
 rw[←hR] at HR5
 rw[←hT] at HT5
 have qU:w.heap.size≤U:=by omega
 have lU:U<w5.heap.size:=by omega
 have qP:w.heap.size≤P:=by omega
 have lP:P<w5.heap.size:=by omega
 have qM:w.heap.size≤M:=by omega
 have lM:M<w5.heap.size:=by omega
 have qR:w.heap.size≤R:=by omega
 have lR:R<w5.heap.size:=by omega
 have qT:w.heap.size≤T:=by omega
 have lT:T<w5.heap.size:=by omega
 have dU:U<P:=by omega
 have dP:P<M:=by omega
 have dM:M<R:=by omega
 have dR:R<T:=by omega
 clear hU hP hM hR hT z1 HW1 z2 HW2 z3 HW3 z4 HW4 z5 HW5
 have HSZ5:=Hj (Nr w5.heap.size)
 have HRUV:Hid (RUV F w (.agg #[.int .i64 x.task,.slice ia img.length ic,.slice wa img.length wc,.slice na 0 nc,.int .i64 ver,.bool false,.bool false,.slice ta 0 tc,.slice la x.led.length lc,.int .i64 x.num,.int .i64 x.att,.int .i64 x.i0,.int .i64 x.i1,.int .i64 x.gr,.bool x.down,.int .i64 x.lost]) x img ver):=Hj ⟨_,_,_,_,_,rfl,HIV.out,HWV.out,HNV.out,HTV.out,HLV.out⟩
 go_upto_region 1 with (fail)
 have HBL5:Hid (∀q∈[U,P,M],∃cc e f,w5.heap[q]? =some (.cells cc e f)):=Hj (by
  intro q hq
  simp only[List.mem_cons,List.not_mem_nil,or_false] at hq
  rcases hq with rfl | rfl | rfl <;> first | exact ⟨_,_,_,HU5.out⟩ | exact ⟨_,_,_,HP5.out⟩ | exact ⟨_,_,_,HM5.out⟩)
 have hBl:=show∀q∈[U,P,M],∃cc e f,w5.heap[q]? =some (.cells cc e f) from HBL5.out
 clear HBL5
 refine Ty.wp_tree [U,P,M] [5,6] [] [0,1,5,6] [0,1,3,4,5,6] (.alt [2] (.alt [7] (.alt [8,9,10,11,12,13] (.done) (.no)) (.no)) (.no)) (by kernel_rfl) (by kernel_rfl) (by kernel_rfl) (by kernel_rfl) hBl ?_
 obtain ⟨w6,hwd⟩:∃y,y=w5.drew:=⟨_,rfl⟩
 have HS6:Hid (SameB [U,P,M] w6 w6):=Hj (by rw[hwd];exact same_start hBl)
 clear hBl
 rw[←hwd]
 have hdr:Below w5.heap.size w5 w6:=by rw[hwd];exact (Br _ _).drew
 have HU6:=Hj (Kb hdr HU5.out)
 have HP6:=Hj (Kb hdr HP5.out)
 have HM6:=Hj (Kb hdr HM5.out)
 have HR6:=Hj (Kb hdr HR5.out)
 have HT6:=Hj (Kb hdr HT5.out)
 have HSZ6:=Hj (Nat.le_trans HSZ5.out (hdr).size)
 clear HU5 HP5 HM5 HR5 HT5 HSZ5
 have bel6:=bel5.trans (hdr.mono bel5.size)
 clear hdr hwd
 have cU_1:=Bj HU6.out 1 rfl
 try simp only[pick,Gs,Gz]
 go_wp2_with (first | refine wpList_load_row rfl 36 _ rfl U rfl 36 #[.int .i64 x.task,.slice ia img.length ic,.slice wa img.length wc,.slice na 0 nc,.int .i64 ver,.bool false,.bool false,.slice ta 0 tc,.slice la x.led.length lc,.int .i64 x.num,.int .i64 x.att,.int .i64 x.i0,.int .i64 x.i1,.int .i64 x.gr,.bool x.down,.int .i64 x.lost] (0,0) _ HU6.out Tryz.underlying36 rfl (by kernel_rfl) ?_ | refine wpList_load_row rfl 41 _ rfl P rfl 41 #[.int .i64 p.c,.int .i64 p.n,.int .i64 p.e,.int .i64 p.k,.int .i64 p.s,.int .i64 p.pl,.int .i64 p.m] (0,0) _ HP6.out Tryz.underlying41 rfl (by kernel_rfl) ?_ | refine wpList_load_row rfl 44 _ rfl M rfl 44 #[.int .i64 ms,.int .i64 md,.int .i64 mk,.int .i64 mq,.int .i64 m0,.int .i64 m1,.int .i64 m2,.int .i64 m3,.slice da d.length dc] (0,0) _ HM6.out Tryz.underlying44 rfl (by kernel_rfl) ?_)
 refine Rm ?_
 clear cU_1
 refine Wq ?_
 try simp only[pick,Gs,Gz]
 go_wp2_with fail
 refine (rhits31_any _ x img ver p _ (HRUV.out.below bel6)).mono ?_
 rintro e w7 ⟨rfl,hb7⟩
 have HU7:=Hj (Kb hb7 HU6.out)
 have HP7:=Hj (Kb hb7 HP6.out)
 have HM7:=Hj (Kb hb7 HM6.out)
 have HR7:=Hj (Kb hb7 HR6.out)
 have HT7:=Hj (Kb hb7 HT6.out)
 have HSZ7:=Hj (Nat.le_trans HSZ6.out (hb7).size)
 clear HU6 HP6 HM6 HR6 HT6 HSZ6
 have bel7:=bel6.trans (hb7.mono bel6.size)
 have HS7:=Hj (same_below' HS6.out hb7)
 clear hb7
 go_wp2
 refine Sm (Ss HS7.out) ?_
 try simp only[pick,Gs,Gz]
 go_wp2
 refine Rm ?_
 refine Wq ?_
 try simp only[pick,Gs,Gz]
 go_wp2_with fail
 refine (rmsg_any ms md mk mq m0 m1 m2 m3 _ d _ HFT.out (by omega) (Raw.to_nil (Rb HD.out bel7))).mono ?_
 rintro e w8 ⟨v8,rfl,o8,hb8⟩
 have HU8:=Hj (Kb hb8 HU7.out)
 have HP8:=Hj (Kb hb8 HP7.out)
 have HM8:=Hj (Kb hb8 HM7.out)
 have HR8:=Hj (Kb hb8 HR7.out)
 have HT8:=Hj (Kb hb8 HT7.out)
 have HSZ8:=Hj (Nat.le_trans HSZ7.out (hb8).size)
 clear HU7 HP7 HM7 HR7 HT7 HSZ7
 have bel8:=bel7.trans (hb8.mono bel7.size)
 have HS8:=Hj (same_below' HS7.out hb8)
 have hel:=encM_len (ms:=ms) (md:=md) (mk:=mk) (mq:=mq) (m0:=m0) (m1:=m1) (m2:=m2) (m3:=m3) (d:=d) HFT.out
 obtain ⟨en,hen⟩:∃en,en=(encM ms md mk mq m0 m1 m2 m3 d):=⟨_,rfl⟩
 rw[←hen] at o8 hel
 have HEN:=Hj hen
 obtain ⟨ea,ec,rfl⟩:=Oq o8
 have HX8:=Hj (Bytes.row (F:=[]) o8 rfl (fun f hf=>by cases hf))
 clear hen o8 hb8
 go_wp2
 refine Sm (Ss HS8.out) ?_
 try simp only[pick,Gs,Gz]
 go_wp2
 refine Rm ?_
 refine Wq ?_
 try simp only[pick,Gs,Gz]
 have hsz8:=HSZ8.out
 go_wp2_with fail
 refine (rinput_any [] (qof x p) 0 img en _ _ _ him (by omega) (Raw.to_nil (Rb HIV.out bel8)) HX8.out).mono ?_
 rintro e w9 ⟨v9,u9,rfl,o9,p9,hb9⟩
 have HU9:=Hj (Kb hb9 HU8.out)
 have HP9:=Hj (Kb hb9 HP8.out)
 have HM9:=Hj (Kb hb9 HM8.out)
 have HR9:=Hj (Kb hb9 HR8.out)
 have HT9:=Hj (Kb hb9 HT8.out)
 have HSZ9:=Hj (Nat.le_trans HSZ8.out (hb9).size)
 have HX9:=Hj (Rb HX8.out hb9)
 clear HU8 HP8 HM8 HR8 HT8 HSZ8 HX8
 have bel9:=bel8.trans (hb9.mono bel8.size)
 have HS9:=Hj (same_below' HS8.out hb9)
 have hzz9:=(show w5.heap.size≤w8.heap.size from hsz8)
 rw[HEN.out] at o9 p9
 obtain ⟨ra,hra⟩:∃r,r=finp (qof x p) 0 img (encM ms md mk mq m0 m1 m2 m3 d):=⟨_,rfl⟩
 rw[←hra] at o9 p9
 have HRa:=Hj hra
 obtain ⟨pia,pja,rfl⟩:=Oq o9
 obtain ⟨pka,pla,rfl⟩:=Oq p9
 have HXa9:=Hj (own_base o9 hzz9)
 have HYa9:=Hj (own_base p9 hzz9)
 clear hra o9 p9 hb9 hzz9 hel
 go_wp2
 refine Sm (Ss HS9.out) ?_
 try simp only[pick,Gs,Gz]
 go_wp2
 refine Rm ?_
 clear HX9
 clear HEN
 refine Wd (by rfl) ⟨.head _,.tail _ (.tail _ (.head _)),trivial⟩ ?_
 go_upto_region 2 with (fail)
 have HBL9:Hid (∀q∈[U,P,M],∃cc e f,w9.heap[q]? =some (.cells cc e f)):=Hj (by
  intro q hq
  simp only[List.mem_cons,List.not_mem_nil,or_false] at hq
  rcases hq with rfl | rfl | rfl <;> first | exact ⟨_,_,_,HU9.out⟩ | exact ⟨_,_,_,HP9.out⟩ | exact ⟨_,_,_,HM9.out⟩)
 have hBl:=show∀q∈[U,P,M],∃cc e f,w9.heap[q]? =some (.cells cc e f) from HBL9.out
 clear HBL9
 refine Ty.wp_tree [U,P,M] [5,6] [] [0,1,5,6] [0,1,3,4,5,6] (.alt [2] (.alt [7] (.alt [8,9,10,11,12,13] (.done) (.no)) (.no)) (.no)) (by kernel_rfl) (by kernel_rfl) (by kernel_rfl) (by kernel_rfl) hBl ?_
 obtain ⟨w10,hwd⟩:∃y,y=w9.drew:=⟨_,rfl⟩
 have HS10:Hid (SameB [U,P,M] w10 w10):=Hj (by rw[hwd];exact same_start hBl)
 clear hBl
 rw[←hwd]
 have hdr:Below w9.heap.size w9 w10:=by rw[hwd];exact (Br _ _).drew
 have HU10:=Hj (Kb hdr HU9.out)
 have HP10:=Hj (Kb hdr HP9.out)
 have HM10:=Hj (Kb hdr HM9.out)
 have HR10:=Hj (Kb hdr HR9.out)
 have HT10:=Hj (Kb hdr HT9.out)
 have HSZ10:=Hj (Nat.le_trans HSZ9.out (hdr).size)
 have HXa10:=Hj (own_below HXa9.out hdr (Nr _))
 have HYa10:=Hj (own_below HYa9.out hdr (Nr _))
 clear HU9 HP9 HM9 HR9 HT9 HSZ9 HXa9 HYa9
 have bel10:=bel9.trans (hdr.mono bel9.size)
 clear hdr hwd
 have cU_1:=Bj HU10.out 1 rfl
 try simp only[pick,Gs,Gz]
 go_wp2_with (first | refine wpList_load_row rfl 36 _ rfl U rfl 36 #[.int .i64 x.task,.slice ia img.length ic,.slice wa img.length wc,.slice na 0 nc,.int .i64 ver,.bool false,.bool false,.slice ta 0 tc,.slice la x.led.length lc,.int .i64 x.num,.int .i64 x.att,.int .i64 x.i0,.int .i64 x.i1,.int .i64 x.gr,.bool x.down,.int .i64 x.lost] (0,0) _ HU10.out Tryz.underlying36 rfl (by kernel_rfl) ?_ | refine wpList_load_row rfl 41 _ rfl P rfl 41 #[.int .i64 p.c,.int .i64 p.n,.int .i64 p.e,.int .i64 p.k,.int .i64 p.s,.int .i64 p.pl,.int .i64 p.m] (0,0) _ HP10.out Tryz.underlying41 rfl (by kernel_rfl) ?_ | refine wpList_load_row rfl 44 _ rfl M rfl 44 #[.int .i64 ms,.int .i64 md,.int .i64 mk,.int .i64 mq,.int .i64 m0,.int .i64 m1,.int .i64 m2,.int .i64 m3,.slice da d.length dc] (0,0) _ HM10.out Tryz.underlying44 rfl (by kernel_rfl) ?_)
 refine Rm ?_
 clear cU_1
 refine Wq ?_
 try simp only[pick,Gs,Gz]
 go_wp2_with fail
 refine (rhits31_any _ x img ver p _ (HRUV.out.below bel10)).mono ?_
 rintro e w11 ⟨rfl,hb11⟩
 have HU11:=Hj (Kb hb11 HU10.out)
 have HP11:=Hj (Kb hb11 HP10.out)
 have HM11:=Hj (Kb hb11 HM10.out)
 have HR11:=Hj (Kb hb11 HR10.out)
 have HT11:=Hj (Kb hb11 HT10.out)
 have HSZ11:=Hj (Nat.le_trans HSZ10.out (hb11).size)
 have HXa11:=Hj (own_below HXa10.out hb11 (Nr _))
 have HYa11:=Hj (own_below HYa10.out hb11 (Nr _))
 clear HU10 HP10 HM10 HR10 HT10 HSZ10 HXa10 HYa10
 have bel11:=bel10.trans (hb11.mono bel10.size)
 have HS11:=Hj (same_below' HS10.out hb11)
 clear hb11
 go_wp2
 refine Sm (Ss HS11.out) ?_
 try simp only[pick,Gs,Gz]
 go_wp2
 refine Rm ?_
 refine Wq ?_
 try simp only[pick,Gs,Gz]
 go_wp2_with fail
 refine (rmsg_any ms md mk mq m0 m1 m2 m3 _ d _ HFT.out (by omega) (Raw.to_nil (Rb HD.out bel11))).mono ?_
 rintro e w12 ⟨v12,rfl,o12,hb12⟩
 have HU12:=Hj (Kb hb12 HU11.out)
 have HP12:=Hj (Kb hb12 HP11.out)
 have HM12:=Hj (Kb hb12 HM11.out)
 have HR12:=Hj (Kb hb12 HR11.out)
 have HT12:=Hj (Kb hb12 HT11.out)
 have HSZ12:=Hj (Nat.le_trans HSZ11.out (hb12).size)
 have HXa12:=Hj (own_below HXa11.out hb12 (Nr _))
 have HYa12:=Hj (own_below HYa11.out hb12 (Nr _))
 clear HU11 HP11 HM11 HR11 HT11 HSZ11 HXa11 HYa11
 have bel12:=bel11.trans (hb12.mono bel11.size)
 have HS12:=Hj (same_below' HS11.out hb12)
 have hel:=encM_len (ms:=ms) (md:=md) (mk:=mk) (mq:=mq) (m0:=m0) (m1:=m1) (m2:=m2) (m3:=m3) (d:=d) HFT.out
 obtain ⟨en,hen⟩:∃en,en=(encM ms md mk mq m0 m1 m2 m3 d):=⟨_,rfl⟩
 rw[←hen] at o12 hel
 have HEN:=Hj hen
 obtain ⟨ea,ec,rfl⟩:=Oq o12
 have HX12:=Hj (Bytes.row (F:=[]) o12 rfl (fun f hf=>by cases hf))
 clear hen o12 hb12
 go_wp2
 refine Sm (Ss HS12.out) ?_
 try simp only[pick,Gs,Gz]
 go_wp2
 refine Rm ?_
 refine Wq ?_
 try simp only[pick,Gs,Gz]
 have hsz12:=HSZ12.out
 go_wp2_with fail
 refine (rinput_any [] (qof x p) 1 img en _ _ _ him (by omega) (Raw.to_nil (Rb HIV.out bel12)) HX12.out).mono ?_
 rintro e w13 ⟨v13,u13,rfl,o13,p13,hb13⟩
 have HU13:=Hj (Kb hb13 HU12.out)
 have HP13:=Hj (Kb hb13 HP12.out)
 have HM13:=Hj (Kb hb13 HM12.out)
 have HR13:=Hj (Kb hb13 HR12.out)
 have HT13:=Hj (Kb hb13 HT12.out)
 have HSZ13:=Hj (Nat.le_trans HSZ12.out (hb13).size)
 have HXa13:=Hj (own_below HXa12.out hb13 (Nr _))
 have HYa13:=Hj (own_below HYa12.out hb13 (Nr _))
 have HX13:=Hj (Rb HX12.out hb13)
 clear HU12 HP12 HM12 HR12 HT12 HSZ12 HXa12 HYa12 HX12
 have bel13:=bel12.trans (hb13.mono bel12.size)
 have HS13:=Hj (same_below' HS12.out hb13)
 have hzz13:=(show w5.heap.size≤w12.heap.size from hsz12)
 rw[HEN.out] at o13 p13
 obtain ⟨rb,hrb⟩:∃r,r=finp (qof x p) 1 img (encM ms md mk mq m0 m1 m2 m3 d):=⟨_,rfl⟩
 rw[←hrb] at o13 p13
 have HRb:=Hj hrb
 obtain ⟨pib,pjb,rfl⟩:=Oq o13
 obtain ⟨pkb,plb,rfl⟩:=Oq p13
 have HXb13:=Hj (own_base o13 hzz13)
 have HYb13:=Hj (own_base p13 hzz13)
 clear hrb o13 p13 hb13 hzz13 hel
 go_wp2
 refine Sm (Ss HS13.out) ?_
 try simp only[pick,Gs,Gz]
 go_wp2
 refine Rm ?_
 clear HX13
 clear HEN
 refine Wd (by rfl) ⟨.head _,.tail _ (.tail _ (.head _)),trivial⟩ ?_
 go_upto_region 3 with (fail)
 go_wp2_with (first | refine wpList_store_row rfl 53 _ _ rfl R #[.slice pia ra.1.length pja,.slice pib rb.1.length pjb] rfl rfl 53 #[.slice none 0 0,.slice none 0 0] HR13.out (by kernel_rfl) rfl (by kernel_rfl) ?_ | refine wpList_store_row rfl 53 _ _ rfl T #[.slice pka ra.2.length pla,.slice pkb rb.2.length plb] rfl rfl 53 #[.slice none 0 0,.slice none 0 0] (by rw[setRow_other _ _ _ _ (by omega)];exact HT13.out) (by kernel_rfl) rfl (by kernel_rfl) ?_)
 obtain ⟨wz,hwz⟩:∃X,X=(w13.setRow R #[.slice pia ra.1.length pja,.slice pib rb.1.length pjb]).setRow T #[.slice pka ra.2.length pla,.slice pkb rb.2.length plb]:=⟨_,rfl⟩
 rw[←hwz]
 have hk:Keep [R,T] w13 wz:=by rw[hwz];exact (keep_weak2 (keep_setRow _ _ _)).trans (keep_setRow _ _ _) (fun f hf=> .inl (by simp at hf;simp[hf]))
 have hR:wz.heap[R]? =some (.cells #[.slice pia ra.1.length pja,.slice pib rb.1.length pjb] 53 (0,0)):=by rw[hwz,setRow_other _ _ _ _ (by omega)];exact setRow_heap _ _ _ _ _ _ HR13.out
 have hT:wz.heap[T]? =some (.cells #[.slice pka ra.2.length pla,.slice pkb rb.2.length plb] 53 (0,0)):=by rw[hwz];exact setRow_heap _ _ _ _ _ _ (by rw[setRow_other _ _ _ _ (by omega)];exact HT13.out)
 refine bodyPost_ret (results_cc rfl _ _ _ _ _ _ _ _ _ rfl hR rfl hT Tryz.underlying53 rfl (by kernel_rfl) (by kernel_rfl)) rfl ?_
 have hn:∀f∈[R,T],w.heap.size≤f:=fun f hf=>by simp only[List.mem_cons,List.not_mem_nil,or_false] at hf;omega
 have ho:∀{v:Value} {l:List UInt8},w13.ownsRow w5.heap.size 5 1 v l.length (bytesV l)→OW w.heap.size wz v l:=fun h=>own_base (own_keep h hk (fun r hr hm=>by have:=(h.lt r hr).1;simp only[List.mem_cons,List.not_mem_nil,or_false] at hm;omega)) hz5
 rw[←HRa.out,←HRb.out]
 exact ⟨_,_,_,_,rfl,ho HXa13.out,ho HXb13.out,ho HYa13.out,ho HYb13.out,below_keep bel13 hk hn⟩
end Go.Proofs.YtipiofgdjbogiaaGreat
