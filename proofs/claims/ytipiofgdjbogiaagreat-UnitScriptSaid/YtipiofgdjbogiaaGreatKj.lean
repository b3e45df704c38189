/- the reference's store: Step, a page -/
import Derived.Test.YtipiofgdjbogiaaGreatKi
set_option maxRecDepth 100000
set_option maxHeartbeats 4000000
namespace Go.Proofs.YtipiofgdjbogiaaGreat
open Go.Txt Go.RowKit Go.Bs Go.Cl Go.Rw Go.Un Go.Im
theorem rstep_page {F:List Nat} (v:Value) (m:Rf) (w:World) (hg:m.Good) (hF:∀f∈F,f<w.heap.size) (h:RV F w v m) (hi:m.inst=true) (hr:m.rz=false) (hne:m.todo≠[]):
  Calls Tryz.prog 54 #[v] w (RN F w (rfStep m).1 (rfStep m).2.1 (rfStep m).2.2):=by
 have hwl:m.working.length≤24000:=hg.wl
 have hfit:=hg.fit hr hi
 have htd:=hg.td hi
 obtain ⟨image,working,next,ver,inst,rz,todo⟩:=m
 have hv:(ver:Int)≤1000000:=by have:=hg.vl;simp only at this;omega
 have htl:todo.length≤1000:=hg.tl
 obtain ⟨iv,wv,nv,tv,rfl,h1,h2,h3,h4⟩:=h
 obtain ⟨ia,ic,rfl⟩:=Rs h1
 obtain ⟨wa,wc,rfl⟩:=Rs h2
 obtain ⟨na,nc,rfl⟩:=Rs h3
 obtain ⟨ta,tc,rfl⟩:=h4.slice
 have H1:=Hj h1;have H2:=Hj h2;have H3:=Hj h3;have H4:=Hj h4
 simp only at H1 H2 H3 H4
 clear h1 h2 h3 h4 hg
 simp only at hi hr hwl hfit htd hne
 subst hi hr
 obtain ⟨c,t,htc⟩:∃c t,todo=c::t:=by cases todo with | nil=>exact absurd rfl hne | cons c t=>exact ⟨c,t,rfl⟩
 have htn:todo.length=t.length+1:=by rw[htc];rfl
 have hcw:c.1*128+c.2.length≤working.length:=by rw[hfit];exact htd c (by rw[htc];simp)
 have Hdl:Hid (t.length≤1000):=Hj (by omega)
 obtain ⟨mm,hmm⟩:∃mm:Rf,mm=⟨image,Un.written working (c.1*128) c.2,next,ver,true,false,t⟩:=⟨_,rfl⟩
 obtain ⟨nn,hnn⟩:∃nn:Nat,nn=mm.left:=⟨_,rfl⟩
 have e1:rfStep ⟨image,working,next,ver,true,false,todo⟩=(mm,nn,0):=by rw[hnn,hmm,htc];simp[rfStep,Rf.left]
 rw[e1]
 have Hmm:=Hj hmm;have Hnn:=Hj hnn
 clear e1 hmm hnn hfit htd hne
 obtain ⟨lf,hlf⟩:∃lf,lf=Rf.left ⟨image,working,next,ver,true,false,todo⟩:=⟨_,rfl⟩
 have hlp:(lf==0)=false:=by rw[hlf,htc];simp[Rf.left]
 have hlp':((lf:Int)==0)=false:=by simpa using hlp
 have hbw:=below_alloc2 w (.cells #[.slice ia image.length ic,.slice wa working.length wc,.slice na next.length nc,.int .i64 ver,.bool true,.bool false,.slice ta todo.length tc] 32) (.cells #[.slice none 0 0,.slice none 0 0,.slice none 0 0,.int .i64 0,.bool false,.bool false,.slice none 0 0] 32)
 have HB0:=Hj (heap_alloc2_0 w (.cells #[.slice ia image.length ic,.slice wa working.length wc,.slice na next.length nc,.int .i64 ver,.bool true,.bool false,.slice ta todo.length tc] 32) (.cells #[.slice none 0 0,.slice none 0 0,.slice none 0 0,.int .i64 0,.bool false,.bool false,.slice none 0 0] 32))
 have HR0:=Hj (heap_alloc2 w (.cells #[.slice ia image.length ic,.slice wa working.length wc,.slice na next.length nc,.int .i64 ver,.bool true,.bool false,.slice ta todo.length tc] 32) (.cells #[.slice none 0 0,.slice none 0 0,.slice none 0 0,.int .i64 0,.bool false,.bool false,.slice none 0 0] 32))
 have hz0:((w.alloc (.cells #[.slice ia image.length ic,.slice wa working.length wc,.slice na next.length nc,.int .i64 ver,.bool true,.bool false,.slice ta todo.length tc] 32)).alloc (.cells #[.slice none 0 0,.slice none 0 0,.slice none 0 0,.int .i64 0,.bool false,.bool false,.slice none 0 0] 32)).heap.size=w.heap.size+2:=by simp
 have HV:=Hj (RV.below (F:=F) (w':=((w.alloc (.cells #[.slice ia image.length ic,.slice wa working.length wc,.slice na next.length nc,.int .i64 ver,.bool true,.bool false,.slice ta todo.length tc] 32)).alloc (.cells #[.slice none 0 0,.slice none 0 0,.slice none 0 0,.int .i64 0,.bool false,.bool false,.slice none 0 0] 32))) (m:=⟨image,working,next,ver,true,false,todo⟩) ⟨_,_,_,_,rfl,H1.out,H2.out,H3.out,H4.out⟩ hbw)
 have HTC:=Hj htc;have HTN:=Hj htn;have HC0:=Hj hcw
 clear htc htn hcw
 go_enter Tryz.func54,Tryz.ntmps54
 go_wp2_with fail
 refine (rleft_any _ _ _ htl HV.out).mono ?_
 rw[←hlf]
 rintro e w1 ⟨rfl,hb1⟩
 rw[hz0] at hb1
 have hs1:=hb1.size
 have hB1:=(hb1.block w.heap.size (by omega)).trans HB0.out
 have hR1:=(hb1.block (w.heap.size+1) (by omega)).trans HR0.out
 obtain ⟨g,hg⟩:∃g,g=w.heap.size+1:=⟨_,rfl⟩
 obtain ⟨p,hpp⟩:∃p,p=w.heap.size:=⟨_,rfl⟩
 rw[←hg] at hR1
 rw[←hg,←hpp]
 rw[←hpp] at hB1
 have c0:w1.cell? ⟨p,0,none⟩=some (.slice ia image.length ic):=Bj hB1 0 rfl
 have c1:w1.cell? ⟨p,1,none⟩=some (.slice wa working.length wc):=Bj hB1 1 rfl
 have c2:w1.cell? ⟨p,2,none⟩=some (.slice na next.length nc):=Bj hB1 2 rfl
 have c3:w1.cell? ⟨p,3,none⟩=some (.int .i64 ver):=Bj hB1 3 rfl
 have c4:w1.cell? ⟨p,4,none⟩=some (.bool true):=Bj hB1 4 rfl
 have c5:w1.cell? ⟨p,5,none⟩=some (.bool false):=Bj hB1 5 rfl
 have c6:w1.cell? ⟨p,6,none⟩=some (.slice ta todo.length tc):=Bj hB1 6 rfl
 have r0:w1.cell? ⟨g,0,none⟩=some (.slice none 0 0):=Bj hR1 0 rfl
 have r1:w1.cell? ⟨g,1,none⟩=some (.slice none 0 0):=Bj hR1 1 rfl
 have r2:w1.cell? ⟨g,2,none⟩=some (.slice none 0 0):=Bj hR1 2 rfl
 have r3:w1.cell? ⟨g,3,none⟩=some (.int .i64 0):=Bj hR1 3 rfl
 have r4:w1.cell? ⟨g,4,none⟩=some (.bool false):=Bj hR1 4 rfl
 have r5:w1.cell? ⟨g,5,none⟩=some (.bool false):=Bj hR1 5 rfl
 have r6:w1.cell? ⟨g,6,none⟩=some (.slice none 0 0):=Bj hR1 6 rfl
 have f0:=Bf hR1 0
 have f1:=Bf hR1 1
 have f2:=Bf hR1 2
 have f3:=Bf hR1 3
 have f4:=Bf hR1 4
 have f5:=Bf hR1 5
 have f6:=Bf hR1 6
 have HRx:=Hj hR1;have HBw:=Hj (hbw.trans (hb1.mono (show w.heap.size≤w.heap.size+2 by omega)))
 have HG:Hid (w.heap.size≤g):=Hj (by omega)
 have HKw:Hid (Keep [] w w1):=Hj (Keep.of_below' HBw.out)
 have HgF:Hid (∀f∈g::F,f∈F∨w.heap.size≤f):=Hj (fun f hf=>by
  rcases List.mem_cons.1 hf with rfl | hf
  ·exact .inr HG.out
  exact .inl hf)
 have HP1:=Hj hB1
 have HGw:Hid (w.heap.size≤g):=HG
 have HPw:Hid (w.heap.size≤p):=Hj (by omega)
 have Hgp:Hid (g≠p):=Hj (by omega)
 have HFw:Hid (∀f∈p::g::F,f<w1.heap.size):=Hj (fun f hf=>by
  rcases List.mem_cons.1 hf with rfl | hf
  ·omega
  rcases List.mem_cons.1 hf with rfl | hf
  ·omega
  have:=hF f hf;omega)
 have HFp:Hid (∀f∈p::g::F,f∈F∨w.heap.size≤f):=Hj (fun f hf=>by
  rcases List.mem_cons.1 hf with rfl | hf
  ·exact .inr HPw.out
  rcases List.mem_cons.1 hf with rfl | hf
  ·exact .inr HGw.out
  exact .inl hf)
 clear hB1 hR1 hz0 hbw hs1 hb1 hg hpp HV HB0 HR0
 have htc:=HTC.out;have htn:=HTN.out;have hcw:=HC0.out
 have HWk:Hid (Bytes [] w1 (.slice wa working.length wc) working):=Hj (Raw.keep (F':=[]) H2.out HKw.out (by simp) (fun f hf=>by cases hf))
 have hC1:=H4.out.keep (F':=p::g::F) HKw.out (by simp) HFp.out
 obtain ⟨cs,hcs,hraw,hby⟩:=hC1
 obtain ⟨p0,ps,rfl⟩:∃p0 ps,cs=p0::ps:=by cases cs with | nil=>rw[htc] at hcs;cases hcs | cons a b=>exact ⟨a,b,rfl⟩
 have hq:=hcs
 rw[htc,List.map_cons,List.cons.injEq] at hq
 obtain ⟨hq0,hqt⟩:=hq
 have hlen:(p0::ps).length=todo.length:=by rw[←hcs,List.length_map]
 have hpl:ps.length=t.length:=by rw[←hqt,List.length_map]
 obtain ⟨k,d⟩:=p0
 simp only at hq0
 subst hq0
 have hd:=hby (k,d) (by simp)
 simp only at hd
 obtain ⟨da,dc,rfl⟩:=Rs hd
 have HD:=Hj hd
 rw[hlen] at hraw
 rcases Raw.cases hraw with ⟨h0,_⟩ | ⟨_,bb,off,cap,hv',_,_,_,_,hcell⟩
 ·omega
 have k0:w1.cell? ⟨bb,off,none⟩=some (.int .i64 k.1):=by simpa using hcell 0 (.int .i64 k.1) (by simp[encC])
 have k1:w1.cell? ⟨bb,off+1,none⟩=some (.slice da k.2.length dc):=by simpa using hcell 1 (.slice da k.2.length dc) (by simp[encC])
 obtain ⟨rfl,rfl⟩:ta=some ⟨bb,off,none⟩∧tc=cap:=by cases hv';exact ⟨rfl,rfl⟩
 have HRaw:=Hj hraw;have HBy:=Hj hby;have Hpl:=Hj hpl;have Hqt:=Hj hqt
 have htp:(0:Int)<todo.length:=by omega
 have hk6:(k.1:Int)≤1000000:=by omega
 have HCW:=Hj hcw
 clear hlf r0 r1 r2 r3 r4 r5 r6 f0 f1 f2 f3 f4 f5 f6 hcell hraw hby hd hcs hv' hlen hqt hpl htc hcw
 have al0:=(Br w1.heap.size w1).alloc (Nr _) (.cells #[.int .i64 k.1,.slice da k.2.length dc] 173)
 obtain ⟨u,hu⟩:∃u,u=w1.alloc (.cells #[.int .i64 k.1,.slice da k.2.length dc] 173):=⟨_,rfl⟩
 obtain ⟨q,hq⟩:∃q,q=w1.heap.size:=⟨_,rfl⟩
 have HUW:Hid (Below w1.heap.size w1 u):=Hj (by rw[hu];exact al0)
 have HQ:Hid (u.heap[q]? =some (.cells #[.int .i64 k.1,.slice da k.2.length dc] 173 (0,0))):=Hj (by rw[hu,hq];exact heap_alloc_new w1 _)
 have HPu:=Hj ((HUW.out.block p (Al HP1.out)).trans HP1.out)
 have HGu:=Hj ((HUW.out.block g (Al HRx.out)).trans HRx.out)
 have HWu:=Hj (Rb HWk.out HUW.out)
 have HDu:=Hj (Raw.keep (F':=[]) HD.out (Keep.of_below' (F:=[]) HUW.out) (by simp) (fun f hf=>by cases hf))
 clear al0
 have HU:=Hj hu;have HQe:=Hj hq
 clear hu hq
 go_upto_region 7 with (fail)
 rw[←HU.out,←HQe.out]
 have c1:u.cell? ⟨p,1,none⟩=some (.slice wa working.length wc):=Bj HPu.out 1 rfl
 have q0:u.cell? ⟨q,0,none⟩=some (.int .i64 k.1):=Bj HQ.out 0 rfl
 have q1:u.cell? ⟨q,1,none⟩=some (.slice da k.2.length dc):=Bj HQ.out 1 rfl
 have hwr:=rwritten_fr _ _ working k.2 (k.1*128) u (by omega) HCW.out HWu.out HDu.out
 rw[show ((k.1*128:Nat):Int)=(k.1:Int)*128 by omega] at hwr
 have HWr:=Hj hwr
 clear hwr c0 c2 c3 c4 c5 c6 k0 k1
 go_wp2_with fail
 refine HWr.out.mono ?_
 rintro e w2 ⟨x,rfl,hx,hb2⟩
 obtain ⟨xa,xc,rfl⟩:=Rs hx
 have HUs:Hid (w1.heap.size≤u.heap.size):=Hj HUW.out.size
 have HX:=Hj (Raw.apart (F':=p::g::F) hx (fun f hf=>Nat.lt_of_lt_of_le (HFw.out f hf) HUs.out))
 have HP2:=Hj (Kb hb2 HPu.out)
 have HG2:=Hj (Kb hb2 HGu.out)
 have HW2:Hid (Below w1.heap.size w1 w2):=Hj (HUW.out.trans (hb2.mono HUs.out))
 have HB2:Hid (Below w.heap.size w w2):=Hj (HBw.out.trans (HW2.out.mono HBw.out.size))
 have d1:w2.cell? ⟨p,1,none⟩=some (.slice wa working.length wc):=Bj HP2.out 1 rfl
 have e1:=Bf HP2.out 1
 clear hx hb2 c1 q0 q1
 go_upto_region 8 with (fail)
 obtain ⟨X,hX⟩:∃X,X=w2.setCell ⟨p,1,none⟩ (.slice xa (Un.written working (k.1*128) k.2).length xc):=⟨_,rfl⟩
 rw[←hX]
 have y1:=heap_setCell_same w2 p 1 _ 32 (.slice xa (Un.written working (k.1*128) k.2).length xc) HP2.out
 rw[←hX] at y1
 have y2:Keep [p] w2 X:=by rw[hX];exact (Keep.refl [p] w2).setCell (by simp) _
 have inP:Hid (∀f∈[p],f∈p::g::F∨w2.heap.size≤f):=Hj (fun f hf=> .inl (by rw[M1' hf];simp))
 have HRaw8:=Raw.keep (F':=p::g::F) (Rb HRaw.out HW2.out) y2 inP.out (fun f hf=> .inl hf)
 obtain ⟨sA,hsl,hdr⟩:=Raw.fromS HRaw8 Tryz.underlying30 (show (Tryz.prog.info? 173).map (·.size)=some 2 by kernel_rfl) (lo:=1) (by omega)
 have e0:todo.length - 1=t.length:=by have:=HTN.out;omega
 rw[e0] at hdr
 have hdr':Raw (p::g::F) 2 X (.slice (some sA) t.length (tc - 1)) t.length (ps.flatMap encC):=by simpa[encC] using hdr
 have hsl':∀wx,(Instr.slice 30 (.slice (some ⟨bb,off,none⟩) todo.length tc) (some (.int .i64 1)) none none).run Tryz.prog wx= .ok (.slice (some sA) t.length (tc - 1)) wx:=fun wx=>by
  have:=hsl wx;rw[e0] at this;exact this
 have al:=(Br X.heap.size X).alloc (Nr _) (.cells #[] 173)
 have HO:=Hj (own_empty X X.heap.size 173 2 (Nr _))
 have HT:=Hj (Rb hdr' al)
 have HBX:Hid (Below w.heap.size w X):=Hj (HB2.out.trans (y2.below (B:=w.heap.size) HB2.out.size (fun f hf=>by rw[M1' hf];exact HPw.out)))
 have HPX:=Hj y1
 have HGX:=Hj ((y2.block g (Al HG2.out) (by simpa using Hgp.out)).trans HG2.out)
 have HY2:=Hj y2
 have c6:X.cell? ⟨p,6,none⟩=some (.slice (some ⟨bb,off,none⟩) todo.length tc):=Bj HPX.out 6 rfl
 have c6a:(X.alloc (.cells #[] 173)).cell? ⟨p,6,none⟩=some (.slice (some ⟨bb,off,none⟩) todo.length tc):=(al.cell (p:=⟨p,6,none⟩) (Al HPX.out)).trans c6
 have HTNb:=Hj htn
 have htl2:t.length≤1000:=Hdl.out
 clear hX y1 y2 HRaw8 hsl hdr hdr' e0 d1 e1
 obtain ⟨tA,htA⟩:∃tA,tA=(some ⟨bb,off,none⟩:Option Addr):=⟨_,rfl⟩
 rw[←htA] at c6 c6a hsl'
 have HtA:=Hj htA
 clear htA htn
 go_wp2_with (at_builtin;refine wpList_app el45 Tryz.underlying30 HO.out HT.out al rfl _ _ rfl rfl rfl ?c3 (Nr _) ?c5 ?_)
 case c3=>omega
 case c5=>exact al.size
 intro y w3 hown3 hb3 _ _
 obtain ⟨ya,yc,rfl⟩:=Oq hown3
 have HB3:=Hj hb3
 have HP3:=Hj (Kb hb3 HPX.out)
 have HG3:=Hj (Kb hb3 HGX.out)
 have c6':w3.cell? ⟨p,6,none⟩=some (.slice tA todo.length tc):=by rw[HtA.out];exact Bj HP3.out 6 rfl
 have e6:=Bf HP3.out 6
 have HO3:=Hj hown3
 clear hown3 hb3 hsl' c6 c6a
 go_upto_region 9 with (fail)
 obtain ⟨Z,hZ⟩:∃Z,Z=w3.setCell ⟨p,6,none⟩ (.slice ya t.length yc):=⟨_,rfl⟩
 rw[←hZ]
 have z1:=heap_setCell_same w3 p 6 _ 32 (.slice ya t.length yc) HP3.out
 rw[←hZ] at z1
 have z2:Keep [p] w3 Z:=by rw[hZ];exact (Keep.refl [p] w3).setCell (by simp) _
 have HPc:Hid (Z.heap[p]? =some (.cells #[.slice ia image.length ic,.slice xa (Un.written working (k.1*128) k.2).length xc,.slice na next.length nc,.int .i64 ver,.bool true,.bool false,.slice ya t.length yc] 32 (0,0))):=Hj z1
 have HGc:=Hj ((z2.block g (Al HG3.out) (by simpa using Hgp.out)).trans HG3.out)
 have HWX:Hid (Below w.heap.size w w3):=Hj (HBX.out.trans (HB3.out.mono HBX.out.size))
 have HBwc:Hid (Below w.heap.size w Z):=Hj (HWX.out.trans (z2.below (B:=w.heap.size) HWX.out.size (fun f hf=>by rw[M1' hf];exact HPw.out)))
 have hpin:∀f∈[p],f∈p::g::F:=fun f hf=>by rw[M1' hf];simp
 have HRV:Hid (RV (p::g::F) Z (.agg #[.slice ia image.length ic,.slice xa (Un.written working (k.1*128) k.2).length xc,.slice na next.length nc,.int .i64 ver,.bool true,.bool false,.slice ya t.length yc]) ⟨image,Un.written working (k.1*128) k.2,next,ver,true,false,t⟩):=Hj (by
  have kXZ:Keep (p::g::F) X Z:=(Keep.of_below' (F:=[]) HB3.out |>.mono (by simp)).trans z2 (fun f hf=> .inl (hpin f hf))
  have k2X:Keep (p::g::F) w2 X:=HY2.out.mono (fun f hf=> .inl (hpin f hf))
  have k2Z:Keep (p::g::F) w2 Z:=k2X.trans kXZ (fun f hf=> .inl hf)
  have kwZ:Keep (p::g::F) w Z:=(Keep.of_below' (F:=[]) HB2.out |>.mono (by simp)).trans k2Z (fun f hf=> .inl hf)
  have tr:∀{l:List UInt8} {x:Value},Bytes F w x l→Bytes (p::g::F) Z x l:=fun hx=>by
   have h1:Keep [] w w2:=Keep.of_below' HB2.out
   exact Raw.keep (F':=p::g::F) (Raw.keep (F':=p::g::F) hx h1 (by simp) HFp.out) k2Z (fun f hf=> .inl hf) (fun f hf=> .inl hf)
  refine ⟨_,_,_,_,rfl,tr H1.out,Raw.keep HX.out k2Z (fun f hf=> .inl hf) (fun f hf=> .inl hf),tr H3.out,ps,Hqt.out, ?_,fun q hq=> ?_⟩
  ·have h1:Raw (p::g::F) 2 w3 (.slice ya t.length yc) t.length (ps.flatMap encC):=by
    refine Raw.of_own HO3.out (encC_one (F:=[]) (w:=w1) (fun q hq=>Raw.keep (F':=[]) (HBy.out q (List.mem_cons_of_mem _ hq)) (Keep.refl [] _) (by simp) (by simp))) (fun f hf=> ?_)
    have s1:=HB2.out.size;have s2:=HY2.out.size
    rcases List.mem_cons.1 hf with rfl | hf
    ·exact (Al HPX.out)
    rcases List.mem_cons.1 hf with rfl | hf
    ·exact (Al HGX.out)
    have:=hF f hf;omega
   rw[Hpl.out]
   exact Raw.keep h1 z2 (fun f hf=> .inl (hpin f hf)) (fun f hf=> .inl hf)
  have h0:=HBy.out q (List.mem_cons_of_mem _ hq)
  exact Raw.keep (F':=p::g::F) (Rb h0 HW2.out) k2Z (fun f hf=> .inl hf) (fun f hf=> .inl hf))
 clear z1 z2 hZ c6' e6 hpin
 have hBl:∀x∈[p],∃c e f,Z.heap[x]? =some (.cells c e f):=fun x hx=>by rw[M1' hx];exact ⟨_,_,_,HPc.out⟩
 have HS0:=Hj (same_start hBl)
 have c0:Z.cell? ⟨p,0,none⟩=some (.slice ia image.length ic):=Bj HPc.out 0 rfl
 have c1:Z.cell? ⟨p,1,none⟩=some (.slice xa (Un.written working (k.1*128) k.2).length xc):=Bj HPc.out 1 rfl
 have c2:Z.cell? ⟨p,2,none⟩=some (.slice na next.length nc):=Bj HPc.out 2 rfl
 have c3:Z.cell? ⟨p,3,none⟩=some (.int .i64 ver):=Bj HPc.out 3 rfl
 have c4:Z.cell? ⟨p,4,none⟩=some (.bool true):=Bj HPc.out 4 rfl
 have c5:Z.cell? ⟨p,5,none⟩=some (.bool false):=Bj HPc.out 5 rfl
 have c6:Z.cell? ⟨p,6,none⟩=some (.slice ya t.length yc):=Bj HPc.out 6 rfl
 go_wp2
 refine Ty.wp_tree [p] [0,1] [3] [0,1] [0,1] (.alt [2] (.alt [3,4,5] (.done) (.no)) (.no)) (by kernel_rfl) (by kernel_rfl) (by kernel_rfl) (by kernel_rfl) hBl ?_
 clear hBl
 try simp only[pick,Gs,Gz]
 go_wp2
 refine Rm ?_
 refine Wq ?_
 try simp only[pick,Gs,Gz]
 go_wp2_with fail
 refine (rleft_any (F:=p::g::F) _ ⟨image,Un.written working (k.1*128) k.2,next,ver,true,false,t⟩ _ Hdl.out (HRV.out.below (Br Z.heap.size Z).drew)).mono ?_
 rw[←Hmm.out,←Hnn.out]
 rintro e w9 ⟨rfl,hb9⟩
 have HB9:Hid (Below Z.heap.size Z w9):=Hj ((Br Z.heap.size Z).drew.trans hb9)
 have HS9:=Hj (same_below' HS0.out hb9)
 have HG9:=Hj ((HB9.out.block g (Al HGc.out)).trans HGc.out)
 have r0:w9.cell? ⟨g,0,none⟩=some (.slice none 0 0):=Bj HG9.out 0 rfl
 have r1:w9.cell? ⟨g,1,none⟩=some (.slice none 0 0):=Bj HG9.out 1 rfl
 have r2:w9.cell? ⟨g,2,none⟩=some (.slice none 0 0):=Bj HG9.out 2 rfl
 have r3:w9.cell? ⟨g,3,none⟩=some (.int .i64 0):=Bj HG9.out 3 rfl
 have r4:w9.cell? ⟨g,4,none⟩=some (.bool false):=Bj HG9.out 4 rfl
 have r5:w9.cell? ⟨g,5,none⟩=some (.bool false):=Bj HG9.out 5 rfl
 have r6:w9.cell? ⟨g,6,none⟩=some (.slice none 0 0):=Bj HG9.out 6 rfl
 have f0:=Bf HG9.out 0
 have f1:=Bf HG9.out 1
 have f2:=Bf HG9.out 2
 have f3:=Bf HG9.out 3
 have f4:=Bf HG9.out 4
 have f5:=Bf HG9.out 5
 have f6:=Bf HG9.out 6
 clear hb9
 go_wp2
 refine Sm (Ss HS9.out) ?_
 refine Rm ?_
 refine Wq ?_
 try simp only[pick,Gs,Gz]
 go_wp2
 refine Sm (Ty.Shown.last rfl) ?_
 try simp only[pick,Gs,Gz]
 go_wp2
 refine Rm ?_
 refine Wd (by rfl) ⟨.head _,.head _,trivial⟩ ?_
 go_wp2
 obtain ⟨s1,s2,s3⟩:=RV.sets (u:=w) (F:=F) _ _ _ _ _ _ _ HG9.out (HBwc.out.trans (HB9.out.mono HBwc.out.size)) HGw.out (m:=⟨image,Un.written working (k.1*128) k.2,next,ver,true,false,t⟩) (iv:= .slice ia image.length ic) (wv:= .slice xa (Un.written working (k.1*128) k.2).length xc) (nv:= .slice na next.length nc) (tv:= .slice ya t.length yc)
  ((RV.below HRV.out HB9.out).keep (F':=g::F) (Keep.refl [] w9) (by simp) (fun f hf=> .inl (List.mem_cons_of_mem _ hf)))
 refine bodyPost_ret (results_ctt rfl _ _ _ _ _ _ _ rfl s1 Tryz.underlying32 rfl (by kernel_rfl)) rfl ?_
 exact ⟨_,rfl,by rw[Hmm.out];exact s2,s3⟩
end Go.Proofs.YtipiofgdjbogiaaGreat
