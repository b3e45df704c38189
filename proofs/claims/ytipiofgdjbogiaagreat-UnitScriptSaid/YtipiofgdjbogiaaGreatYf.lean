/- UnitScript: the reference's unit: Restart -/
import Derived.Test.YtipiofgdjbogiaaGreatYe
set_option maxRecDepth 100000
set_option maxHeartbeats 4000000
namespace Go.Proofs.YtipiofgdjbogiaaGreat
open Go.Txt Go.RowKit Go.Bs Go.Cl Go.Rw Go.Un Go.Im Go.Fa Go.Wi
theorem rrestart31_any {F:List Nat} (v:Value) (x:Us) (img:List UInt8) (ver:Nat) (m:Int) (w:World) (hg:0≤x.gr∧x.gr≤1000000) (hil:img.length≤24000) (hv:RUV F w v x img ver):
  Calls Tryz.prog 14 #[v,.int .i64 m] w fun e w'=>∃v' r,r=rstU x ⟨img,ver,false,[],0⟩ m∧e= .returned (.tuple #[v',.int .i64 r.2.1,.int .i64 r.2.2])∧RUV F w' v' r.1 img ver∧Below w.heap.size w w':=by
 obtain ⟨xtask,xled,xnum,xatt,xi0,xi1,xgr,xdown,xlost⟩:=x
 dsimp only at hg⊢
 obtain ⟨hg1,hg2⟩:=hg
 obtain ⟨iv,wv,nv,tv,lv,rfl,hiv,hwv,hnv,htv,hlv⟩:=hv
 obtain ⟨ia,ic,rfl⟩:=Rs hiv
 obtain ⟨wa,wc,rfl⟩:=Rs hwv
 obtain ⟨na,nc,rfl⟩:=Rs hnv
 obtain ⟨ta,tc,rfl⟩:=htv.slice
 obtain ⟨la,lc,rfl⟩:=Rs hlv
 simp only[RUc,List.length_nil] at hnv htv⊢
 have HIV:=Hj hiv;have HWV:=Hj hwv;have HNV:=Hj hnv;have HTV:=Hj htv;have HLV:=Hj hlv
 clear hiv hwv hnv htv hlv
 simp only at*
 obtain ⟨w1,hw1⟩:∃W,W=w.alloc (.cells #[.int .i64 xtask,.slice ia img.length ic,.slice wa img.length wc,.slice na 0 nc,.int .i64 ver,.bool false,.bool false,.slice ta 0 tc,.slice la xled.length lc,.int .i64 xnum,.int .i64 xatt,.int .i64 xi0,.int .i64 xi1,.int .i64 xgr,.bool xdown,.int .i64 xlost] 36):=⟨_,rfl⟩
 obtain ⟨w2,hw2⟩:∃W,W=w1.alloc (.cells #[.int .i64 0,.slice none 0 0,.slice none 0 0,.slice none 0 0,.int .i64 0,.bool false,.bool false,.slice none 0 0,.slice none 0 0,.int .i64 0,.int .i64 0,.int .i64 0,.int .i64 0,.int .i64 0,.bool false,.int .i64 0] 36):=⟨_,rfl⟩
 have z1:w1.heap.size=w.heap.size+1:=by rw[hw1];simp
 have z2:w2.heap.size=w.heap.size+1+1:=by rw[hw2];simp[z1]
 have b1:Below w.heap.size w w1:=by rw[hw1];exact (Br _ w).alloc (Nr _) _
 have n1:w1.heap[w.heap.size]? =some (.cells #[.int .i64 xtask,.slice ia img.length ic,.slice wa img.length wc,.slice na 0 nc,.int .i64 ver,.bool false,.bool false,.slice ta 0 tc,.slice la xled.length lc,.int .i64 xnum,.int .i64 xatt,.int .i64 xi0,.int .i64 xi1,.int .i64 xgr,.bool xdown,.int .i64 xlost] 36 (0,0)):=by rw[hw1];exact heap_alloc_new w _
 have b2:Below w1.heap.size w1 w2:=by rw[hw2];exact (Br _ w1).alloc (Nr _) _
 have n2:w2.heap[w.heap.size+1]? =some (.cells #[.int .i64 0,.slice none 0 0,.slice none 0 0,.slice none 0 0,.int .i64 0,.bool false,.bool false,.slice none 0 0,.slice none 0 0,.int .i64 0,.int .i64 0,.int .i64 0,.int .i64 0,.int .i64 0,.bool false,.int .i64 0] 36 (0,0)):=by rw[hw2,←z1];exact heap_alloc_new w1 _
 have t1:=b1
 have t2:=t1.trans (b2.mono t1.size)
 have HU2:=Hj ((b2.block _ (by omega)).trans (n1))
 have HR2:=Hj (n2)
 have HW1:=Hj hw1
 have HW2:=Hj hw2
 have bel2:=t2
 have hz2:=t2.size
 clear hw1 b1 n1 t1 hw2 b2 n2 t2
 go_enter Tryz.func14,Tryz.ntmps14
 go_upto_region 1 with (fail)
 rw[←HW1.out,←HW2.out]
 obtain ⟨U,hU⟩:∃A,A=w.heap.size:=⟨_,rfl⟩
 obtain ⟨R,hR⟩:∃A,A=w.heap.size+1:=⟨_,rfl⟩
 rw[←hR,←hU]
 rw[←hU] at HU2
 rw[←hR] at HR2
 have qU:w.heap.size≤U:=by omega
 have lU:U<w2.heap.size:=by omega
 have qR:w.heap.size≤R:=by omega
 have lR:R<w2.heap.size:=by omega
 have dU:U<R:=by omega
 clear hU hR z1 HW1 z2 HW2
 cases xdown
 ·have HRS:Hid (rstU ⟨xtask,xled,xnum,xatt,xi0,xi1,xgr,false,xlost⟩ ⟨img,ver,false,[],0⟩ m=(⟨xtask,xled,xnum,xatt,xi0,xi1,xgr,false,xlost⟩,0,7)):=Hj rfl
  have cU_0:=Bj HU2.out 0 rfl
  have cU_1:=Bj HU2.out 1 rfl
  have cU_2:=Bj HU2.out 2 rfl
  have cU_3:=Bj HU2.out 3 rfl
  have cU_4:=Bj HU2.out 4 rfl
  have cU_5:=Bj HU2.out 5 rfl
  have cU_6:=Bj HU2.out 6 rfl
  have cU_7:=Bj HU2.out 7 rfl
  have cU_8:=Bj HU2.out 8 rfl
  have cU_9:=Bj HU2.out 9 rfl
  have cU_10:=Bj HU2.out 10 rfl
  have cU_11:=Bj HU2.out 11 rfl
  have cU_12:=Bj HU2.out 12 rfl
  have cU_13:=Bj HU2.out 13 rfl
  have cU_14:=Bj HU2.out 14 rfl
  have cU_15:=Bj HU2.out 15 rfl
  go_upto_region 2 with (fail)
  clear cU_0 cU_1 cU_2 cU_3 cU_4 cU_5 cU_6 cU_7 cU_8 cU_9 cU_10 cU_11 cU_12 cU_13 cU_14 cU_15
  go_step
  refine wpList_load_row rfl 36 _ rfl U rfl 36 #[.int .i64 xtask,.slice ia img.length ic,.slice wa img.length wc,.slice na 0 nc,.int .i64 ver,.bool false,.bool false,.slice ta 0 tc,.slice la xled.length lc,.int .i64 xnum,.int .i64 xatt,.int .i64 xi0,.int .i64 xi1,.int .i64 xgr,.bool false,.int .i64 xlost] (0,0) _ HU2.out Tryz.underlying36 rfl (by kernel_rfl) ?_
  go_wp2_with (refine wpList_store_row rfl 36 _ _ rfl R #[.int .i64 xtask,.slice ia img.length ic,.slice wa img.length wc,.slice na 0 nc,.int .i64 ver,.bool false,.bool false,.slice ta 0 tc,.slice la xled.length lc,.int .i64 xnum,.int .i64 xatt,.int .i64 xi0,.int .i64 xi1,.int .i64 xgr,.bool false,.int .i64 xlost] rfl rfl 36 #[.int .i64 0,.slice none 0 0,.slice none 0 0,.slice none 0 0,.int .i64 0,.bool false,.bool false,.slice none 0 0,.slice none 0 0,.int .i64 0,.int .i64 0,.int .i64 0,.int .i64 0,.int .i64 0,.bool false,.int .i64 0] HR2.out (by kernel_rfl) rfl (by kernel_rfl) ?_)
  obtain ⟨w3,hN⟩:∃X,X=w2.setRow R #[.int .i64 xtask,.slice ia img.length ic,.slice wa img.length wc,.slice na 0 nc,.int .i64 ver,.bool false,.bool false,.slice ta 0 tc,.slice la xled.length lc,.int .i64 xnum,.int .i64 xatt,.int .i64 xi0,.int .i64 xi1,.int .i64 xgr,.bool false,.int .i64 xlost]:=⟨_,rfl⟩
  rw[←hN]
  have hNk:Keep [R] w2 w3:=by rw[hN];exact keep_setRow _ _ _
  have HR3:Hid (w3.heap[R]? =some (.cells #[.int .i64 xtask,.slice ia img.length ic,.slice wa img.length wc,.slice na 0 nc,.int .i64 ver,.bool false,.bool false,.slice ta 0 tc,.slice la xled.length lc,.int .i64 xnum,.int .i64 xatt,.int .i64 xi0,.int .i64 xi1,.int .i64 xgr,.bool false,.int .i64 xlost] 36 (0,0))):=Hj (by rw[hN];exact setRow_heap _ _ _ _ _ _ HR2.out)
  have hNz:=hNk.size
  have HU3:=Hj ((hNk.block U (Al HU2.out) (by simp;omega)).trans HU2.out)
  clear hN HU2 HR2
  have bel3:Below w.heap.size w w3:=below_keep bel2 hNk (fun f hf=>by rw[M1' hf];exact qR)
  clear hNk
  refine bodyPost_ret (results_ctt rfl _ _ _ _ _ _ _ rfl HR3.out Tryz.underlying36 rfl (by kernel_rfl)) rfl ?_
  exact ⟨_,_,HRS.out.symm,rfl,⟨_,_,_,_,_,rfl,Rb HIV.out bel3,Rb HWV.out bel3,Rb HNV.out bel3,HTV.out.below bel3,Rb HLV.out bel3⟩,bel3⟩
 by_cases h0:m=0
 ·have HRS:Hid (rstU ⟨xtask,xled,xnum,xatt,xi0,xi1,xgr,true,xlost⟩ ⟨img,ver,false,[],0⟩ m=(up {(⟨xtask,xled,xnum,xatt,xi0,xi1,xgr,true,xlost⟩:Us) with gr:=xgr+1,i0:=xi1,i1:=xgr+1} ⟨img,ver,false,[],0⟩,acnt img.length+1,0)):=Hj (by unfold rstU;rw[if_neg (by simp),if_pos h0])
  have e0:(m != 0)=false:=by simpa using h0
  have e1:(m==0)=true:=by simpa using h0
  clear h0
  have cU_0:=Bj HU2.out 0 rfl
  have cU_1:=Bj HU2.out 1 rfl
  have cU_2:=Bj HU2.out 2 rfl
  have cU_3:=Bj HU2.out 3 rfl
  have cU_4:=Bj HU2.out 4 rfl
  have cU_5:=Bj HU2.out 5 rfl
  have cU_6:=Bj HU2.out 6 rfl
  have cU_7:=Bj HU2.out 7 rfl
  have cU_8:=Bj HU2.out 8 rfl
  have cU_9:=Bj HU2.out 9 rfl
  have cU_10:=Bj HU2.out 10 rfl
  have cU_11:=Bj HU2.out 11 rfl
  have cU_12:=Bj HU2.out 12 rfl
  have cU_13:=Bj HU2.out 13 rfl
  have cU_14:=Bj HU2.out 14 rfl
  have cU_15:=Bj HU2.out 15 rfl
  have gU_11:=Bf HU2.out 11
  have gU_12:=Bf HU2.out 12
  go_upto_region 8 with (fail)
  obtain ⟨w3,hN⟩:∃X,X=((w2.setCell ⟨U,11,none⟩ (.int .i64 xi1)).setCell ⟨U,12,none⟩ (.int .i64 (xgr+1))):=⟨_,rfl⟩
  rw[←hN]
  obtain ⟨hNb,hNk⟩:=puts_at [(11,.int .i64 xi1),(12,.int .i64 (xgr+1))] HU2.out
  have hNe:puts w2 U [(11,.int .i64 xi1),(12,.int .i64 (xgr+1))]=w3:=hN.symm
  rw[hNe] at hNb hNk
  have HU3:Hid (w3.heap[U]? =some (.cells #[.int .i64 xtask,.slice ia img.length ic,.slice wa img.length wc,.slice na 0 nc,.int .i64 ver,.bool false,.bool false,.slice ta 0 tc,.slice la xled.length lc,.int .i64 xnum,.int .i64 xatt,.int .i64 xi1,.int .i64 (xgr+1),.int .i64 xgr,.bool true,.int .i64 xlost] 36 (0,0))):=Hj hNb
  have hNz:=hNk.size
  clear cU_0 cU_1 cU_2 cU_3 cU_4 cU_5 cU_6 cU_7 cU_8 cU_9 cU_10 cU_11 cU_12 cU_13 cU_14 cU_15 gU_11 gU_12
  have HR3:=Hj ((hNk.block R (Al HR2.out) (by simp;omega)).trans HR2.out)
  clear hN hNe hNb HU2 HR2
  have bel3:Below w.heap.size w w3:=below_keep bel2 hNk (fun f hf=>by rw[M1' hf];exact qU)
  clear hNk
  have cU_0:=Bj HU3.out 0 rfl
  have cU_1:=Bj HU3.out 1 rfl
  have cU_2:=Bj HU3.out 2 rfl
  have cU_3:=Bj HU3.out 3 rfl
  have cU_4:=Bj HU3.out 4 rfl
  have cU_5:=Bj HU3.out 5 rfl
  have cU_6:=Bj HU3.out 6 rfl
  have cU_7:=Bj HU3.out 7 rfl
  have cU_8:=Bj HU3.out 8 rfl
  have cU_9:=Bj HU3.out 9 rfl
  have cU_10:=Bj HU3.out 10 rfl
  have cU_11:=Bj HU3.out 11 rfl
  have cU_12:=Bj HU3.out 12 rfl
  have cU_13:=Bj HU3.out 13 rfl
  have cU_14:=Bj HU3.out 14 rfl
  have cU_15:=Bj HU3.out 15 rfl
  have gU_13:=Bf HU3.out 13
  have gU_14:=Bf HU3.out 14
  have gU_15:=Bf HU3.out 15
  go_wp2_with fail
  refine (rrestart_any (img.length:Int) (by omega) (by omega) _).mono ?_
  rintro e w' ⟨rfl,rfl⟩
  obtain ⟨st,hst⟩:∃st,st=acnt (img.length:Int)+1:=⟨_,rfl⟩
  rw[←hst]
  have HST:=Hj hst
  clear hst
  go_upto_region 10 with (fail)
  obtain ⟨w4,hN⟩:∃X,X=(((w3.setCell ⟨U,13,none⟩ (.int .i64 (xgr+1))).setCell ⟨U,14,none⟩ (.bool false)).setCell ⟨U,15,none⟩ (.int .i64 (wrap64 (xlost+st)))):=⟨_,rfl⟩
  rw[←hN]
  obtain ⟨hNb,hNk⟩:=puts_at [(13,.int .i64 (xgr+1)),(14,.bool false),(15,.int .i64 (wrap64 (xlost+st)))] HU3.out
  have hNe:puts w3 U [(13,.int .i64 (xgr+1)),(14,.bool false),(15,.int .i64 (wrap64 (xlost+st)))]=w4:=hN.symm
  rw[hNe] at hNb hNk
  have HU4:Hid (w4.heap[U]? =some (.cells #[.int .i64 xtask,.slice ia img.length ic,.slice wa img.length wc,.slice na 0 nc,.int .i64 ver,.bool false,.bool false,.slice ta 0 tc,.slice la xled.length lc,.int .i64 xnum,.int .i64 xatt,.int .i64 xi1,.int .i64 (xgr+1),.int .i64 (xgr+1),.bool false,.int .i64 (wrap64 (xlost+st))] 36 (0,0))):=Hj hNb
  have hNz:=hNk.size
  clear cU_0 cU_1 cU_2 cU_3 cU_4 cU_5 cU_6 cU_7 cU_8 cU_9 cU_10 cU_11 cU_12 cU_13 cU_14 cU_15 gU_13 gU_14 gU_15
  have HR4:=Hj ((hNk.block R (Al HR3.out) (by simp;omega)).trans HR3.out)
  clear hN hNe hNb HU3 HR3
  have bel4:Below w.heap.size w w4:=below_keep bel3 hNk (fun f hf=>by rw[M1' hf];exact qU)
  clear hNk
  go_step
  refine wpList_load_row rfl 36 _ rfl U rfl 36 #[.int .i64 xtask,.slice ia img.length ic,.slice wa img.length wc,.slice na 0 nc,.int .i64 ver,.bool false,.bool false,.slice ta 0 tc,.slice la xled.length lc,.int .i64 xnum,.int .i64 xatt,.int .i64 xi1,.int .i64 (xgr+1),.int .i64 (xgr+1),.bool false,.int .i64 (wrap64 (xlost+st))] (0,0) _ HU4.out Tryz.underlying36 rfl (by kernel_rfl) ?_
  go_wp2_with (refine wpList_store_row rfl 36 _ _ rfl R #[.int .i64 xtask,.slice ia img.length ic,.slice wa img.length wc,.slice na 0 nc,.int .i64 ver,.bool false,.bool false,.slice ta 0 tc,.slice la xled.length lc,.int .i64 xnum,.int .i64 xatt,.int .i64 xi1,.int .i64 (xgr+1),.int .i64 (xgr+1),.bool false,.int .i64 (wrap64 (xlost+st))] rfl rfl 36 #[.int .i64 0,.slice none 0 0,.slice none 0 0,.slice none 0 0,.int .i64 0,.bool false,.bool false,.slice none 0 0,.slice none 0 0,.int .i64 0,.int .i64 0,.int .i64 0,.int .i64 0,.int .i64 0,.bool false,.int .i64 0] HR4.out (by kernel_rfl) rfl (by kernel_rfl) ?_)
  obtain ⟨w5,hN⟩:∃X,X=w4.setRow R #[.int .i64 xtask,.slice ia img.length ic,.slice wa img.length wc,.slice na 0 nc,.int .i64 ver,.bool false,.bool false,.slice ta 0 tc,.slice la xled.length lc,.int .i64 xnum,.int .i64 xatt,.int .i64 xi1,.int .i64 (xgr+1),.int .i64 (xgr+1),.bool false,.int .i64 (wrap64 (xlost+st))]:=⟨_,rfl⟩
  rw[←hN]
  have hNk:Keep [R] w4 w5:=by rw[hN];exact keep_setRow _ _ _
  have HR5:Hid (w5.heap[R]? =some (.cells #[.int .i64 xtask,.slice ia img.length ic,.slice wa img.length wc,.slice na 0 nc,.int .i64 ver,.bool false,.bool false,.slice ta 0 tc,.slice la xled.length lc,.int .i64 xnum,.int .i64 xatt,.int .i64 xi1,.int .i64 (xgr+1),.int .i64 (xgr+1),.bool false,.int .i64 (wrap64 (xlost+st))] 36 (0,0))):=Hj (by rw[hN];exact setRow_heap _ _ _ _ _ _ HR4.out)
  have hNz:=hNk.size
  have HU5:=Hj ((hNk.block U (Al HU4.out) (by simp;omega)).trans HU4.out)
  clear hN HU4 HR4
  have bel5:Below w.heap.size w w5:=below_keep bel4 hNk (fun f hf=>by rw[M1' hf];exact qR)
  clear hNk
  refine bodyPost_ret (results_ctt rfl _ _ _ _ _ _ _ rfl HR5.out Tryz.underlying36 rfl (by kernel_rfl)) rfl ?_
  exact ⟨_,_,HRS.out.symm,(by rw[HST.out];rfl),(by unfold up;dsimp only;rw[←HST.out];exact ⟨_,_,_,_,_,rfl,Rb HIV.out bel5,Rb HWV.out bel5,Rb HNV.out bel5,HTV.out.below bel5,Rb HLV.out bel5⟩),bel5⟩
 by_cases h1:m=1
 ·have HRS:Hid (rstU ⟨xtask,xled,xnum,xatt,xi0,xi1,xgr,true,xlost⟩ ⟨img,ver,false,[],0⟩ m=(up {(⟨xtask,xled,xnum,xatt,xi0,xi1,xgr,true,xlost⟩:Us) with gr:=xgr+2,i0:=xgr+2 - 1,i1:=xgr+2} ⟨img,ver,false,[],0⟩,acnt img.length+1,0)):=Hj (by unfold rstU;rw[if_neg (by simp),if_neg h0,if_pos h1])
  have e0:(m != 0)=true:=by simpa using h0
  have e1:(m==0)=false:=by simpa using h0
  have e2:(m != 1)=false:=by simpa using h1
  clear h0 h1
  have cU_0:=Bj HU2.out 0 rfl
  have cU_1:=Bj HU2.out 1 rfl
  have cU_2:=Bj HU2.out 2 rfl
  have cU_3:=Bj HU2.out 3 rfl
  have cU_4:=Bj HU2.out 4 rfl
  have cU_5:=Bj HU2.out 5 rfl
  have cU_6:=Bj HU2.out 6 rfl
  have cU_7:=Bj HU2.out 7 rfl
  have cU_8:=Bj HU2.out 8 rfl
  have cU_9:=Bj HU2.out 9 rfl
  have cU_10:=Bj HU2.out 10 rfl
  have cU_11:=Bj HU2.out 11 rfl
  have cU_12:=Bj HU2.out 12 rfl
  have cU_13:=Bj HU2.out 13 rfl
  have cU_14:=Bj HU2.out 14 rfl
  have cU_15:=Bj HU2.out 15 rfl
  have gU_11:=Bf HU2.out 11
  have gU_12:=Bf HU2.out 12
  go_upto_region 8 with (fail)
  obtain ⟨w3,hN⟩:∃X,X=((w2.setCell ⟨U,11,none⟩ (.int .i64 (xgr+1))).setCell ⟨U,12,none⟩ (.int .i64 (xgr+2))):=⟨_,rfl⟩
  rw[←hN]
  obtain ⟨hNb,hNk⟩:=puts_at [(11,.int .i64 (xgr+1)),(12,.int .i64 (xgr+2))] HU2.out
  have hNe:puts w2 U [(11,.int .i64 (xgr+1)),(12,.int .i64 (xgr+2))]=w3:=hN.symm
  rw[hNe] at hNb hNk
  have HU3:Hid (w3.heap[U]? =some (.cells #[.int .i64 xtask,.slice ia img.length ic,.slice wa img.length wc,.slice na 0 nc,.int .i64 ver,.bool false,.bool false,.slice ta 0 tc,.slice la xled.length lc,.int .i64 xnum,.int .i64 xatt,.int .i64 (xgr+1),.int .i64 (xgr+2),.int .i64 xgr,.bool true,.int .i64 xlost] 36 (0,0))):=Hj hNb
  have hNz:=hNk.size
  clear cU_0 cU_1 cU_2 cU_3 cU_4 cU_5 cU_6 cU_7 cU_8 cU_9 cU_10 cU_11 cU_12 cU_13 cU_14 cU_15 gU_11 gU_12
  have HR3:=Hj ((hNk.block R (Al HR2.out) (by simp;omega)).trans HR2.out)
  clear hN hNe hNb HU2 HR2
  have bel3:Below w.heap.size w w3:=below_keep bel2 hNk (fun f hf=>by rw[M1' hf];exact qU)
  clear hNk
  have cU_0:=Bj HU3.out 0 rfl
  have cU_1:=Bj HU3.out 1 rfl
  have cU_2:=Bj HU3.out 2 rfl
  have cU_3:=Bj HU3.out 3 rfl
  have cU_4:=Bj HU3.out 4 rfl
  have cU_5:=Bj HU3.out 5 rfl
  have cU_6:=Bj HU3.out 6 rfl
  have cU_7:=Bj HU3.out 7 rfl
  have cU_8:=Bj HU3.out 8 rfl
  have cU_9:=Bj HU3.out 9 rfl
  have cU_10:=Bj HU3.out 10 rfl
  have cU_11:=Bj HU3.out 11 rfl
  have cU_12:=Bj HU3.out 12 rfl
  have cU_13:=Bj HU3.out 13 rfl
  have cU_14:=Bj HU3.out 14 rfl
  have cU_15:=Bj HU3.out 15 rfl
  have gU_13:=Bf HU3.out 13
  have gU_14:=Bf HU3.out 14
  have gU_15:=Bf HU3.out 15
  go_wp2_with fail
  refine (rrestart_any (img.length:Int) (by omega) (by omega) _).mono ?_
  rintro e w' ⟨rfl,rfl⟩
  obtain ⟨st,hst⟩:∃st,st=acnt (img.length:Int)+1:=⟨_,rfl⟩
  rw[←hst]
  have HST:=Hj hst
  clear hst
  go_upto_region 10 with (fail)
  obtain ⟨w4,hN⟩:∃X,X=(((w3.setCell ⟨U,13,none⟩ (.int .i64 (xgr+2))).setCell ⟨U,14,none⟩ (.bool false)).setCell ⟨U,15,none⟩ (.int .i64 (wrap64 (xlost+st)))):=⟨_,rfl⟩
  rw[←hN]
  obtain ⟨hNb,hNk⟩:=puts_at [(13,.int .i64 (xgr+2)),(14,.bool false),(15,.int .i64 (wrap64 (xlost+st)))] HU3.out
  have hNe:puts w3 U [(13,.int .i64 (xgr+2)),(14,.bool false),(15,.int .i64 (wrap64 (xlost+st)))]=w4:=hN.symm
  rw[hNe] at hNb hNk
  have HU4:Hid (w4.heap[U]? =some (.cells #[.int .i64 xtask,.slice ia img.length ic,.slice wa img.length wc,.slice na 0 nc,.int .i64 ver,.bool false,.bool false,.slice ta 0 tc,.slice la xled.length lc,.int .i64 xnum,.int .i64 xatt,.int .i64 (xgr+1),.int .i64 (xgr+2),.int .i64 (xgr+2),.bool false,.int .i64 (wrap64 (xlost+st))] 36 (0,0))):=Hj hNb
  have hNz:=hNk.size
  clear cU_0 cU_1 cU_2 cU_3 cU_4 cU_5 cU_6 cU_7 cU_8 cU_9 cU_10 cU_11 cU_12 cU_13 cU_14 cU_15 gU_13 gU_14 gU_15
  have HR4:=Hj ((hNk.block R (Al HR3.out) (by simp;omega)).trans HR3.out)
  clear hN hNe hNb HU3 HR3
  have bel4:Below w.heap.size w w4:=below_keep bel3 hNk (fun f hf=>by rw[M1' hf];exact qU)
  clear hNk
  go_step
  refine wpList_load_row rfl 36 _ rfl U rfl 36 #[.int .i64 xtask,.slice ia img.length ic,.slice wa img.length wc,.slice na 0 nc,.int .i64 ver,.bool false,.bool false,.slice ta 0 tc,.slice la xled.length lc,.int .i64 xnum,.int .i64 xatt,.int .i64 (xgr+1),.int .i64 (xgr+2),.int .i64 (xgr+2),.bool false,.int .i64 (wrap64 (xlost+st))] (0,0) _ HU4.out Tryz.underlying36 rfl (by kernel_rfl) ?_
  go_wp2_with (refine wpList_store_row rfl 36 _ _ rfl R #[.int .i64 xtask,.slice ia img.length ic,.slice wa img.length wc,.slice na 0 nc,.int .i64 ver,.bool false,.bool false,.slice ta 0 tc,.slice la xled.length lc,.int .i64 xnum,.int .i64 xatt,.int .i64 (xgr+1),.int .i64 (xgr+2),.int .i64 (xgr+2),.bool false,.int .i64 (wrap64 (xlost+st))] rfl rfl 36 #[.int .i64 0,.slice none 0 0,.slice none 0 0,.slice none 0 0,.int .i64 0,.bool false,.bool false,.slice none 0 0,.slice none 0 0,.int .i64 0,.int .i64 0,.int .i64 0,.int .i64 0,.int .i64 0,.bool false,.int .i64 0] HR4.out (by kernel_rfl) rfl (by kernel_rfl) ?_)
  obtain ⟨w5,hN⟩:∃X,X=w4.setRow R #[.int .i64 xtask,.slice ia img.length ic,.slice wa img.length wc,.slice na 0 nc,.int .i64 ver,.bool false,.bool false,.slice ta 0 tc,.slice la xled.length lc,.int .i64 xnum,.int .i64 xatt,.int .i64 (xgr+1),.int .i64 (xgr+2),.int .i64 (xgr+2),.bool false,.int .i64 (wrap64 (xlost+st))]:=⟨_,rfl⟩
  rw[←hN]
  have hNk:Keep [R] w4 w5:=by rw[hN];exact keep_setRow _ _ _
  have HR5:Hid (w5.heap[R]? =some (.cells #[.int .i64 xtask,.slice ia img.length ic,.slice wa img.length wc,.slice na 0 nc,.int .i64 ver,.bool false,.bool false,.slice ta 0 tc,.slice la xled.length lc,.int .i64 xnum,.int .i64 xatt,.int .i64 (xgr+1),.int .i64 (xgr+2),.int .i64 (xgr+2),.bool false,.int .i64 (wrap64 (xlost+st))] 36 (0,0))):=Hj (by rw[hN];exact setRow_heap _ _ _ _ _ _ HR4.out)
  have hNz:=hNk.size
  have HU5:=Hj ((hNk.block U (Al HU4.out) (by simp;omega)).trans HU4.out)
  clear hN HU4 HR4
  have bel5:Below w.heap.size w w5:=below_keep bel4 hNk (fun f hf=>by rw[M1' hf];exact qR)
  clear hNk
  refine bodyPost_ret (results_ctt rfl _ _ _ _ _ _ _ rfl HR5.out Tryz.underlying36 rfl (by kernel_rfl)) rfl ?_
  exact ⟨_,_,HRS.out.symm,(by rw[HST.out];rfl),(by unfold up;dsimp only;rw[←HST.out,show xgr+2 - 1=xgr+1 by omega];exact ⟨_,_,_,_,_,rfl,Rb HIV.out bel5,Rb HWV.out bel5,Rb HNV.out bel5,HTV.out.below bel5,Rb HLV.out bel5⟩),bel5⟩
 have HRS:Hid (rstU ⟨xtask,xled,xnum,xatt,xi0,xi1,xgr,true,xlost⟩ ⟨img,ver,false,[],0⟩ m=(⟨xtask,xled,xnum,xatt,xi0,xi1,xgr,true,xlost⟩,0,1)):=Hj (by unfold rstU;rw[if_neg (by simp),if_neg h0,if_neg h1])
 have e0:(m != 0)=true:=by simpa using h0
 have e2:(m != 1)=true:=by simpa using h1
 clear h0 h1
 have cU_0:=Bj HU2.out 0 rfl
 have cU_1:=Bj HU2.out 1 rfl
 have cU_2:=Bj HU2.out 2 rfl
 have cU_3:=Bj HU2.out 3 rfl
 have cU_4:=Bj HU2.out 4 rfl
 have cU_5:=Bj HU2.out 5 rfl
 have cU_6:=Bj HU2.out 6 rfl
 have cU_7:=Bj HU2.out 7 rfl
 have cU_8:=Bj HU2.out 8 rfl
 have cU_9:=Bj HU2.out 9 rfl
 have cU_10:=Bj HU2.out 10 rfl
 have cU_11:=Bj HU2.out 11 rfl
 have cU_12:=Bj HU2.out 12 rfl
 have cU_13:=Bj HU2.out 13 rfl
 have cU_14:=Bj HU2.out 14 rfl
 have cU_15:=Bj HU2.out 15 rfl
 go_upto_region 4 with (fail)
 clear cU_0 cU_1 cU_2 cU_3 cU_4 cU_5 cU_6 cU_7 cU_8 cU_9 cU_10 cU_11 cU_12 cU_13 cU_14 cU_15
 go_step
 refine wpList_load_row rfl 36 _ rfl U rfl 36 #[.int .i64 xtask,.slice ia img.length ic,.slice wa img.length wc,.slice na 0 nc,.int .i64 ver,.bool false,.bool false,.slice ta 0 tc,.slice la xled.length lc,.int .i64 xnum,.int .i64 xatt,.int .i64 xi0,.int .i64 xi1,.int .i64 xgr,.bool true,.int .i64 xlost] (0,0) _ HU2.out Tryz.underlying36 rfl (by kernel_rfl) ?_
 go_wp2_with (refine wpList_store_row rfl 36 _ _ rfl R #[.int .i64 xtask,.slice ia img.length ic,.slice wa img.length wc,.slice na 0 nc,.int .i64 ver,.bool false,.bool false,.slice ta 0 tc,.slice la xled.length lc,.int .i64 xnum,.int .i64 xatt,.int .i64 xi0,.int .i64 xi1,.int .i64 xgr,.bool true,.int .i64 xlost] rfl rfl 36 #[.int .i64 0,.slice none 0 0,.slice none 0 0,.slice none 0 0,.int .i64 0,.bool false,.bool false,.slice none 0 0,.slice none 0 0,.int .i64 0,.int .i64 0,.int .i64 0,.int .i64 0,.int .i64 0,.bool false,.int .i64 0] HR2.out (by kernel_rfl) rfl (by kernel_rfl) ?_)
 obtain ⟨w3,hN⟩:∃X,X=w2.setRow R #[.int .i64 xtask,.slice ia img.length ic,.slice wa img.length wc,.slice na 0 nc,.int .i64 ver,.bool false,.bool false,.slice ta 0 tc,.slice la xled.length lc,.int .i64 xnum,.int .i64 xatt,.int .i64 xi0,.int .i64 xi1,.int .i64 xgr,.bool true,.int .i64 xlost]:=⟨_,rfl⟩
 rw[←hN]
 have hNk:Keep [R] w2 w3:=by rw[hN];exact keep_setRow _ _ _
 have HR3:Hid (w3.heap[R]? =some (.cells #[.int .i64 xtask,.slice ia img.length ic,.slice wa img.length wc,.slice na 0 nc,.int .i64 ver,.bool false,.bool false,.slice ta 0 tc,.slice la xled.length lc,.int .i64 xnum,.int .i64 xatt,.int .i64 xi0,.int .i64 xi1,.int .i64 xgr,.bool true,.int .i64 xlost] 36 (0,0))):=Hj (by rw[hN];exact setRow_heap _ _ _ _ _ _ HR2.out)
 have hNz:=hNk.size
 have HU3:=Hj ((hNk.block U (Al HU2.out) (by simp;omega)).trans HU2.out)
 clear hN HU2 HR2
 have bel3:Below w.heap.size w w3:=below_keep bel2 hNk (fun f hf=>by rw[M1' hf];exact qR)
 clear hNk
 refine bodyPost_ret (results_ctt rfl _ _ _ _ _ _ _ rfl HR3.out Tryz.underlying36 rfl (by kernel_rfl)) rfl ?_
 exact ⟨_,_,HRS.out.symm,rfl,⟨_,_,_,_,_,rfl,Rb HIV.out bel3,Rb HWV.out bel3,Rb HNV.out bel3,HTV.out.below bel3,Rb HLV.out bel3⟩,bel3⟩
end Go.Proofs.YtipiofgdjbogiaaGreat
