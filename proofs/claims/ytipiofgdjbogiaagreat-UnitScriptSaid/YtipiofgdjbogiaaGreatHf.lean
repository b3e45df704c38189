/- unit: Restart, calls on nil -/
import Derived.Test.YtipiofgdjbogiaaGreatHe
set_option maxRecDepth 100000
set_option maxHeartbeats 4000000
namespace Go.Im
open Go Go.Txt Go.RowKit Go.Bs Go.Cl Go.Rw Go.Un Go.Fa
def up (x:Us) (s:Ps):Us:={x with down:=false,lost:=wrap64 (x.lost+(acnt s.image.length+1))}
def rstU (x:Us) (s:Ps) (m:Int):Us×Int×Int:=
 if x.down=false then (x,0,7)
 else if m=0 then (up {x with gr:=x.gr+1,i0:=x.i1,i1:=x.gr+1} s,acnt s.image.length+1,0)
 else if m=1 then (up {x with gr:=x.gr+2,i0:=x.gr+2 - 1,i1:=x.gr+2} s,acnt s.image.length+1,0)
 else (x,0,1)
end Go.Im
namespace Go.Proofs.YtipiofgdjbogiaaGreat
open Go.Txt Go.RowKit Go.Bs Go.Cl Go.Rw Go.Un Go.Im Go.Fa
theorem restart_any (n:Int) (h1: -9223372036854775808≤n) (h2:n≤9223372036854775807) (w:World):Calls Tryz.prog 43 #[.int .i64 n] w fun e w'=>e= .returned (.int .i64 (acnt n+1))∧w=w':=by
 go_enter Tryz.func43,Tryz.ntmps43
 go_wp2_with fail
 refine (acount_any n h1 h2 _).mono ?_
 rintro e w1 ⟨rfl,rfl⟩
 have a1:=acnt_lo n
 have a3:=acnt_hi n h2
 obtain ⟨x,hx⟩:∃x,x=acnt n:=⟨_,rfl⟩
 rw[←hx] at a1 a3⊢
 have HX:=Hj hx
 clear hx
 go_wp2
 go_ret
 exact ⟨by rw[←HX.out];rfl,rfl⟩
theorem restart_live {base u g h:Nat} {iv rv lv:Value} {x:Us} {s:Ps} {w:World} (H:UAt w base u g h iv rv lv x s) (L0:List Nat) (h0:∀z∈L0,z<w.heap.size∧z∉UF u g h iv rv) (hr:Raw (L0++UF u g h iv rv) 2 w lv x.led.length (x.led.flatMap Lg.encL)) (m:Int) (hg:0≤x.gr∧x.gr≤1000000) (him:s.image.length≤24000):
  Calls Tryz.prog 13 #[.pointer (some ⟨u,0,none⟩),.int .i64 m] w fun e w'=>∃r,r=rstU x s m∧∃lv',e= .returned (.tuple #[.int .i64 r.2.1,.int .i64 r.2.2])∧UQ w base u g h iv rv lv' r.1 s L0 [] w':=by
 obtain ⟨hg1,hg2⟩:=hg
 obtain ⟨la,lc,rfl⟩:=Rs H.hl
 have HQ:=Hj (UQ.start' (L:=L0) H h0 hr (Br _ w) (fun z hz=> .inl hz))
 have H0L:=Hj (fun z (hz:z∈L0)=>(h0 z hz).1)
 have HU0:=Hj H.hu
 clear H
 have hu:=HU0.out
 have u0:w.cell? ⟨u,0,none⟩=some (.int .i64 x.task):=Bo hu rfl
 have u1:w.cell? ⟨u,1,none⟩=some (.pointer (some ⟨g,0,none⟩)):=Bo hu rfl
 have u2:w.cell? ⟨u,2,none⟩=some ((.slice la x.led.length lc)):=Bo hu rfl
 have u3:w.cell? ⟨u,3,none⟩=some (.int .i64 x.num):=Bo hu rfl
 have u4:w.cell? ⟨u,4,none⟩=some (.int .i64 x.att):=Bo hu rfl
 have u5:w.cell? ⟨u,5,none⟩=some (.int .i64 x.i0):=Bo hu rfl
 have u6:w.cell? ⟨u,6,none⟩=some (.int .i64 x.i1):=Bo hu rfl
 have u7:w.cell? ⟨u,7,none⟩=some (.int .i64 x.gr):=Bo hu rfl
 have u8:w.cell? ⟨u,8,none⟩=some (.bool x.down):=Bo hu rfl
 have u9:w.cell? ⟨u,9,none⟩=some (.int .i64 x.lost):=Bo hu rfl
 clear hu
 have ac1:=acnt_lo s.image.length
 have ac2:=acnt_hi s.image.length (by omega)
 obtain ⟨AC,hAC⟩:∃A,A=acnt s.image.length:=⟨_,rfl⟩
 have HAC:=Hj hAC
 rw[←hAC] at ac1 ac2
 clear hAC
 cases hd:x.down
 ·rw[hd] at u8
  go_enter Tryz.func13,Tryz.ntmps13
  go_wp2
  go_ret2
  exact ⟨_,(show (x,(0:Int),(7:Int))=_ by unfold rstU;rw[if_pos hd]),_,rfl,HQ.out⟩
 rw[hd] at u8
 have HR:=Hj (show rstU x s m=_ by unfold rstU;rw[if_neg (by simp[hd])])
 by_cases hm0:m=0
 ·subst hm0
  refine Calls.mono (R:=fun e w'=>e= .returned (.tuple #[.int .i64 (acnt s.image.length+1),.int .i64 0])∧UQ w base u g h iv rv (.slice la x.led.length lc) (up {x with gr:=x.gr+1,i0:=x.i1,i1:=x.gr+1} s) s L0 [] w') ?_ (fun e w' h=>⟨_,(show (up {x with gr:=x.gr+1,i0:=x.i1,i1:=x.gr+1} s,acnt s.image.length+1,(0:Int))=_ by rw[HR.out,if_pos rfl]),_,h.1,h.2⟩)
  go_enter Tryz.func13,Tryz.ntmps13
  have g7:=Bf HU0.out 7
  go_upto_region 7 with (fail)
  clear u0 u1 u2 u3 u4 u5 u6 u7 u8 u9
  clear g7
  obtain ⟨X1,hN⟩:∃X,X=(w.setCell ⟨u,7,none⟩ (.int .i64 (x.gr+1))):=⟨_,rfl⟩
  rw[←hN]
  obtain ⟨hNb,hNk⟩:=puts_at [(7,.int .i64 (x.gr+1))] HU0.out
  have hNe:puts w u [(7,.int .i64 (x.gr+1))]=X1:=hN.symm
  have hNz:=puts_size [(7,.int .i64 (x.gr+1))] w u
  rw[hNe] at hNb hNk hNz
  have HK1:=Hj hNk
  have HZ1:=Hj hNz
  have HU1:Hid (X1.heap[u]? =some (.cells (UCells {x with gr:=(x.gr+1)} g (.slice la x.led.length lc)) 90 (0,0))):=Hj hNb
  clear hN hNb hNk hNe hNz
  have u0:X1.cell? ⟨u,0,none⟩=some (.int .i64 x.task):=Bo HU1.out rfl
  have u1:X1.cell? ⟨u,1,none⟩=some (.pointer (some ⟨g,0,none⟩)):=Bo HU1.out rfl
  have u2:X1.cell? ⟨u,2,none⟩=some ((.slice la x.led.length lc)):=Bo HU1.out rfl
  have u3:X1.cell? ⟨u,3,none⟩=some (.int .i64 x.num):=Bo HU1.out rfl
  have u4:X1.cell? ⟨u,4,none⟩=some (.int .i64 x.att):=Bo HU1.out rfl
  have u5:X1.cell? ⟨u,5,none⟩=some (.int .i64 x.i0):=Bo HU1.out rfl
  have u6:X1.cell? ⟨u,6,none⟩=some (.int .i64 x.i1):=Bo HU1.out rfl
  have u7:X1.cell? ⟨u,7,none⟩=some (.int .i64 (x.gr+1)):=Bo HU1.out rfl
  have u8:X1.cell? ⟨u,8,none⟩=some (.bool x.down):=Bo HU1.out rfl
  have u9:X1.cell? ⟨u,9,none⟩=some (.int .i64 x.lost):=Bo HU1.out rfl
  have g5:=Bf HU1.out 5
  have g6:=Bf HU1.out 6
  refine Ty.wp_tree [] [] [13] [5,9] [0,1,2,3,4,5,6,7,8,9,10,11,12] (.alt [13] (.done) (.no)) (by kernel_rfl) (by kernel_rfl) (by kernel_rfl) (by kernel_rfl) (fun z hz=>by cases hz) ?_
  try simp only[pick,Gs,Gz]
  go_wp2
  refine Rm ?_
  refine Wq ?_
  try simp only[pick,Gs,Gz]
  go_wp2
  refine Sm (Ty.Shown.last rfl) ?_
  try simp only[pick,Gs,Gz]
  go_wp2
  refine Rm ?_
  refine Wd (by rfl) trivial ?_
  clear u0 u1 u2 u3 u4 u5 u6 u7 u8 u9
  clear g5 g6
  obtain ⟨X2,hN⟩:∃X,X=((X1.setCell ⟨u,5,none⟩ (.int .i64 x.i1)).setCell ⟨u,6,none⟩ (.int .i64 (x.gr+1))):=⟨_,rfl⟩
  rw[←hN]
  obtain ⟨hNb,hNk⟩:=puts_at [(5,.int .i64 x.i1),(6,.int .i64 (x.gr+1))] HU1.out
  have hNe:puts X1 u [(5,.int .i64 x.i1),(6,.int .i64 (x.gr+1))]=X2:=hN.symm
  have hNz:=puts_size [(5,.int .i64 x.i1),(6,.int .i64 (x.gr+1))] X1 u
  rw[hNe] at hNb hNk hNz
  have HK2:=Hj hNk
  have HZ2:=Hj hNz
  have HU2:Hid (X2.heap[u]? =some (.cells (UCells {x with gr:=(x.gr+1),i0:=x.i1,i1:=(x.gr+1)} g (.slice la x.led.length lc)) 90 (0,0))):=Hj hNb
  clear hN hNb hNk hNe hNz
  obtain ⟨X3,hX3⟩:∃X,X=X2.drew:=⟨_,rfl⟩
  rw[←hX3]
  have hdr:Below X2.heap.size X2 X3:=by rw[hX3];exact (Br _ X2).drew
  have HQ3:=Hj ((HQ.out.set (x':={x with gr:=(x.gr+1),i0:=x.i1,i1:=(x.gr+1)}) (HK1.out.trans HK2.out (fun f hf=> .inl hf)) HU2.out (.inl ⟨rfl,rfl⟩)).below hdr)
  clear hdr hX3
  obtain ⟨iv1,rv1,hat,_,_,_,_⟩:=HQ3.out.take (fun z hz=>by have:=H0L.out z hz;have:=HQ3.out.size;omega)
  have HAT:=Hj hat
  clear hat
  have hu:=HQ3.out.cells
  have u0:X3.cell? ⟨u,0,none⟩=some (.int .i64 x.task):=Bo hu rfl
  have u1:X3.cell? ⟨u,1,none⟩=some (.pointer (some ⟨g,0,none⟩)):=Bo hu rfl
  have u2:X3.cell? ⟨u,2,none⟩=some ((.slice la x.led.length lc)):=Bo hu rfl
  have u3:X3.cell? ⟨u,3,none⟩=some (.int .i64 x.num):=Bo hu rfl
  have u4:X3.cell? ⟨u,4,none⟩=some (.int .i64 x.att):=Bo hu rfl
  have u5:X3.cell? ⟨u,5,none⟩=some (.int .i64 (x.i1)):=Bo hu rfl
  have u6:X3.cell? ⟨u,6,none⟩=some (.int .i64 ((x.gr+1))):=Bo hu rfl
  have u7:X3.cell? ⟨u,7,none⟩=some (.int .i64 (x.gr+1)):=Bo hu rfl
  have u8:X3.cell? ⟨u,8,none⟩=some (.bool x.down):=Bo hu rfl
  have u9:X3.cell? ⟨u,9,none⟩=some (.int .i64 x.lost):=Bo hu rfl
  clear hu
  go_wp2_with fail
  refine (img_any _ HAT.out.hs).mono ?_
  rintro e X4 ⟨iv4,rfl,ho4,hb4⟩
  obtain ⟨ia4,ic4,rfl⟩:=Oq ho4
  have HQ4:=Hj (HQ3.out.below hb4)
  clear ho4 hb4 HQ3 HAT
  clear u0 u1 u2 u3 u4 u5 u6 u7 u8 u9
  go_wp2_with fail
  refine (restart_any s.image.length (by omega) (by omega) _).mono ?_
  rintro e w' ⟨rfl,rfl⟩
  have hu:=HQ4.out.cells
  have HU4:=Hj hu
  have u0:X4.cell? ⟨u,0,none⟩=some (.int .i64 x.task):=Bo hu rfl
  have u1:X4.cell? ⟨u,1,none⟩=some (.pointer (some ⟨g,0,none⟩)):=Bo hu rfl
  have u2:X4.cell? ⟨u,2,none⟩=some ((.slice la x.led.length lc)):=Bo hu rfl
  have u3:X4.cell? ⟨u,3,none⟩=some (.int .i64 x.num):=Bo hu rfl
  have u4:X4.cell? ⟨u,4,none⟩=some (.int .i64 x.att):=Bo hu rfl
  have u5:X4.cell? ⟨u,5,none⟩=some (.int .i64 (x.i1)):=Bo hu rfl
  have u6:X4.cell? ⟨u,6,none⟩=some (.int .i64 ((x.gr+1))):=Bo hu rfl
  have u7:X4.cell? ⟨u,7,none⟩=some (.int .i64 (x.gr+1)):=Bo hu rfl
  have u8:X4.cell? ⟨u,8,none⟩=some (.bool x.down):=Bo hu rfl
  have u9:X4.cell? ⟨u,9,none⟩=some (.int .i64 x.lost):=Bo hu rfl
  have g8:=Bf hu 8
  clear hu
  go_upto_region 13 with (fail)
  clear u0 u1 u2 u3 u4 u5 u6 u7 u8 u9
  clear g8
  obtain ⟨X5,hN⟩:∃X,X=(X4.setCell ⟨u,8,none⟩ (.bool false)):=⟨_,rfl⟩
  rw[←hN]
  obtain ⟨hNb,hNk⟩:=puts_at [(8,.bool false)] HU4.out
  have hNe:puts X4 u [(8,.bool false)]=X5:=hN.symm
  have hNz:=puts_size [(8,.bool false)] X4 u
  rw[hNe] at hNb hNk hNz
  have HK5:=Hj hNk
  have HZ5:=Hj hNz
  have HU5:Hid (X5.heap[u]? =some (.cells (UCells {x with gr:=(x.gr+1),i0:=x.i1,i1:=(x.gr+1),down:=false} g (.slice la x.led.length lc)) 90 (0,0))):=Hj hNb
  clear hN hNb hNk hNe hNz
  have u0:X5.cell? ⟨u,0,none⟩=some (.int .i64 x.task):=Bo HU5.out rfl
  have u1:X5.cell? ⟨u,1,none⟩=some (.pointer (some ⟨g,0,none⟩)):=Bo HU5.out rfl
  have u2:X5.cell? ⟨u,2,none⟩=some ((.slice la x.led.length lc)):=Bo HU5.out rfl
  have u3:X5.cell? ⟨u,3,none⟩=some (.int .i64 x.num):=Bo HU5.out rfl
  have u4:X5.cell? ⟨u,4,none⟩=some (.int .i64 x.att):=Bo HU5.out rfl
  have u5:X5.cell? ⟨u,5,none⟩=some (.int .i64 (x.i1)):=Bo HU5.out rfl
  have u6:X5.cell? ⟨u,6,none⟩=some (.int .i64 ((x.gr+1))):=Bo HU5.out rfl
  have u7:X5.cell? ⟨u,7,none⟩=some (.int .i64 (x.gr+1)):=Bo HU5.out rfl
  have u8:X5.cell? ⟨u,8,none⟩=some (.bool false):=Bo HU5.out rfl
  have u9:X5.cell? ⟨u,9,none⟩=some (.int .i64 x.lost):=Bo HU5.out rfl
  have g9:=Bf HU5.out 9
  go_wp2
  clear u0 u1 u2 u3 u4 u5 u6 u7 u8 u9
  clear g9
  obtain ⟨X6,hN⟩:∃X,X=(X5.setCell ⟨u,9,none⟩ (.int .i64 (wrap64 (x.lost+(acnt s.image.length+1))))):=⟨_,rfl⟩
  rw[←hN]
  obtain ⟨hNb,hNk⟩:=puts_at [(9,.int .i64 (wrap64 (x.lost+(acnt s.image.length+1))))] HU5.out
  have hNe:puts X5 u [(9,.int .i64 (wrap64 (x.lost+(acnt s.image.length+1))))]=X6:=hN.symm
  have hNz:=puts_size [(9,.int .i64 (wrap64 (x.lost+(acnt s.image.length+1))))] X5 u
  rw[hNe] at hNb hNk hNz
  have HK6:=Hj hNk
  have HZ6:=Hj hNz
  have HU6:Hid (X6.heap[u]? =some (.cells (UCells {x with gr:=(x.gr+1),i0:=x.i1,i1:=(x.gr+1),down:=false,lost:=wrap64 (x.lost+(acnt s.image.length+1))} g (.slice la x.led.length lc)) 90 (0,0))):=Hj hNb
  have HQ6:=Hj (HQ4.out.set (x':={x with gr:=(x.gr+1),i0:=x.i1,i1:=(x.gr+1),down:=false,lost:=wrap64 (x.lost+(acnt s.image.length+1))}) (HK5.out.trans hNk (fun f hf=> .inl hf)) HU6.out (.inl ⟨rfl,rfl⟩))
  clear hN hNb hNk hNe hNz
  go_ret2
  refine ⟨rfl,HQ6.out⟩
 by_cases hm1:m=1
 ·subst hm1
  refine Calls.mono (R:=fun e w'=>e= .returned (.tuple #[.int .i64 (acnt s.image.length+1),.int .i64 0])∧UQ w base u g h iv rv (.slice la x.led.length lc) (up {x with gr:=x.gr+2,i0:=x.gr+2 - 1,i1:=x.gr+2} s) s L0 [] w') ?_ (fun e w' h=>⟨_,(show (up {x with gr:=x.gr+2,i0:=x.gr+2 - 1,i1:=x.gr+2} s,acnt s.image.length+1,(0:Int))=_ by rw[HR.out,if_neg (by simp),if_pos rfl]),_,h.1,h.2⟩)
  go_enter Tryz.func13,Tryz.ntmps13
  have g7:=Bf HU0.out 7
  go_upto_region 10 with (fail)
  clear u0 u1 u2 u3 u4 u5 u6 u7 u8 u9
  clear g7
  obtain ⟨X1,hN⟩:∃X,X=(w.setCell ⟨u,7,none⟩ (.int .i64 (x.gr+2))):=⟨_,rfl⟩
  rw[←hN]
  obtain ⟨hNb,hNk⟩:=puts_at [(7,.int .i64 (x.gr+2))] HU0.out
  have hNe:puts w u [(7,.int .i64 (x.gr+2))]=X1:=hN.symm
  have hNz:=puts_size [(7,.int .i64 (x.gr+2))] w u
  rw[hNe] at hNb hNk hNz
  have HK1:=Hj hNk
  have HZ1:=Hj hNz
  have HU1:Hid (X1.heap[u]? =some (.cells (UCells {x with gr:=(x.gr+2)} g (.slice la x.led.length lc)) 90 (0,0))):=Hj hNb
  clear hN hNb hNk hNe hNz
  have u0:X1.cell? ⟨u,0,none⟩=some (.int .i64 x.task):=Bo HU1.out rfl
  have u1:X1.cell? ⟨u,1,none⟩=some (.pointer (some ⟨g,0,none⟩)):=Bo HU1.out rfl
  have u2:X1.cell? ⟨u,2,none⟩=some ((.slice la x.led.length lc)):=Bo HU1.out rfl
  have u3:X1.cell? ⟨u,3,none⟩=some (.int .i64 x.num):=Bo HU1.out rfl
  have u4:X1.cell? ⟨u,4,none⟩=some (.int .i64 x.att):=Bo HU1.out rfl
  have u5:X1.cell? ⟨u,5,none⟩=some (.int .i64 x.i0):=Bo HU1.out rfl
  have u6:X1.cell? ⟨u,6,none⟩=some (.int .i64 x.i1):=Bo HU1.out rfl
  have u7:X1.cell? ⟨u,7,none⟩=some (.int .i64 (x.gr+2)):=Bo HU1.out rfl
  have u8:X1.cell? ⟨u,8,none⟩=some (.bool x.down):=Bo HU1.out rfl
  have u9:X1.cell? ⟨u,9,none⟩=some (.int .i64 x.lost):=Bo HU1.out rfl
  have g5:=Bf HU1.out 5
  have g6:=Bf HU1.out 6
  refine Ty.wp_tree [] [] [13] [4,9] [0,1,2,3,4,5,6,7,8,9,10,11,12] (.alt [13] (.done) (.no)) (by kernel_rfl) (by kernel_rfl) (by kernel_rfl) (by kernel_rfl) (fun z hz=>by cases hz) ?_
  try simp only[pick,Gs,Gz]
  go_wp2
  refine Rm ?_
  refine Wq ?_
  try simp only[pick,Gs,Gz]
  go_wp2
  refine Sm (Ty.Shown.last rfl) ?_
  try simp only[pick,Gs,Gz]
  go_wp2
  refine Rm ?_
  refine Wd (by rfl) trivial ?_
  clear u0 u1 u2 u3 u4 u5 u6 u7 u8 u9
  clear g5 g6
  obtain ⟨X2,hN⟩:∃X,X=((X1.setCell ⟨u,5,none⟩ (.int .i64 (x.gr+2 - 1))).setCell ⟨u,6,none⟩ (.int .i64 (x.gr+2))):=⟨_,rfl⟩
  rw[←hN]
  obtain ⟨hNb,hNk⟩:=puts_at [(5,.int .i64 (x.gr+2 - 1)),(6,.int .i64 (x.gr+2))] HU1.out
  have hNe:puts X1 u [(5,.int .i64 (x.gr+2 - 1)),(6,.int .i64 (x.gr+2))]=X2:=hN.symm
  have hNz:=puts_size [(5,.int .i64 (x.gr+2 - 1)),(6,.int .i64 (x.gr+2))] X1 u
  rw[hNe] at hNb hNk hNz
  have HK2:=Hj hNk
  have HZ2:=Hj hNz
  have HU2:Hid (X2.heap[u]? =some (.cells (UCells {x with gr:=(x.gr+2),i0:=(x.gr+2 - 1),i1:=(x.gr+2)} g (.slice la x.led.length lc)) 90 (0,0))):=Hj hNb
  clear hN hNb hNk hNe hNz
  obtain ⟨X3,hX3⟩:∃X,X=X2.drew:=⟨_,rfl⟩
  rw[←hX3]
  have hdr:Below X2.heap.size X2 X3:=by rw[hX3];exact (Br _ X2).drew
  have HQ3:=Hj ((HQ.out.set (x':={x with gr:=(x.gr+2),i0:=(x.gr+2 - 1),i1:=(x.gr+2)}) (HK1.out.trans HK2.out (fun f hf=> .inl hf)) HU2.out (.inl ⟨rfl,rfl⟩)).below hdr)
  clear hdr hX3
  obtain ⟨iv1,rv1,hat,_,_,_,_⟩:=HQ3.out.take (fun z hz=>by have:=H0L.out z hz;have:=HQ3.out.size;omega)
  have HAT:=Hj hat
  clear hat
  have hu:=HQ3.out.cells
  have u0:X3.cell? ⟨u,0,none⟩=some (.int .i64 x.task):=Bo hu rfl
  have u1:X3.cell? ⟨u,1,none⟩=some (.pointer (some ⟨g,0,none⟩)):=Bo hu rfl
  have u2:X3.cell? ⟨u,2,none⟩=some ((.slice la x.led.length lc)):=Bo hu rfl
  have u3:X3.cell? ⟨u,3,none⟩=some (.int .i64 x.num):=Bo hu rfl
  have u4:X3.cell? ⟨u,4,none⟩=some (.int .i64 x.att):=Bo hu rfl
  have u5:X3.cell? ⟨u,5,none⟩=some (.int .i64 ((x.gr+2 - 1))):=Bo hu rfl
  have u6:X3.cell? ⟨u,6,none⟩=some (.int .i64 ((x.gr+2))):=Bo hu rfl
  have u7:X3.cell? ⟨u,7,none⟩=some (.int .i64 (x.gr+2)):=Bo hu rfl
  have u8:X3.cell? ⟨u,8,none⟩=some (.bool x.down):=Bo hu rfl
  have u9:X3.cell? ⟨u,9,none⟩=some (.int .i64 x.lost):=Bo hu rfl
  clear hu
  go_wp2_with fail
  refine (img_any _ HAT.out.hs).mono ?_
  rintro e X4 ⟨iv4,rfl,ho4,hb4⟩
  obtain ⟨ia4,ic4,rfl⟩:=Oq ho4
  have HQ4:=Hj (HQ3.out.below hb4)
  clear ho4 hb4 HQ3 HAT
  clear u0 u1 u2 u3 u4 u5 u6 u7 u8 u9
  go_wp2_with fail
  refine (restart_any s.image.length (by omega) (by omega) _).mono ?_
  rintro e w' ⟨rfl,rfl⟩
  have hu:=HQ4.out.cells
  have HU4:=Hj hu
  have u0:X4.cell? ⟨u,0,none⟩=some (.int .i64 x.task):=Bo hu rfl
  have u1:X4.cell? ⟨u,1,none⟩=some (.pointer (some ⟨g,0,none⟩)):=Bo hu rfl
  have u2:X4.cell? ⟨u,2,none⟩=some ((.slice la x.led.length lc)):=Bo hu rfl
  have u3:X4.cell? ⟨u,3,none⟩=some (.int .i64 x.num):=Bo hu rfl
  have u4:X4.cell? ⟨u,4,none⟩=some (.int .i64 x.att):=Bo hu rfl
  have u5:X4.cell? ⟨u,5,none⟩=some (.int .i64 ((x.gr+2 - 1))):=Bo hu rfl
  have u6:X4.cell? ⟨u,6,none⟩=some (.int .i64 ((x.gr+2))):=Bo hu rfl
  have u7:X4.cell? ⟨u,7,none⟩=some (.int .i64 (x.gr+2)):=Bo hu rfl
  have u8:X4.cell? ⟨u,8,none⟩=some (.bool x.down):=Bo hu rfl
  have u9:X4.cell? ⟨u,9,none⟩=some (.int .i64 x.lost):=Bo hu rfl
  have g8:=Bf hu 8
  clear hu
  go_upto_region 13 with (fail)
  clear u0 u1 u2 u3 u4 u5 u6 u7 u8 u9
  clear g8
  obtain ⟨X5,hN⟩:∃X,X=(X4.setCell ⟨u,8,none⟩ (.bool false)):=⟨_,rfl⟩
  rw[←hN]
  obtain ⟨hNb,hNk⟩:=puts_at [(8,.bool false)] HU4.out
  have hNe:puts X4 u [(8,.bool false)]=X5:=hN.symm
  have hNz:=puts_size [(8,.bool false)] X4 u
  rw[hNe] at hNb hNk hNz
  have HK5:=Hj hNk
  have HZ5:=Hj hNz
  have HU5:Hid (X5.heap[u]? =some (.cells (UCells {x with gr:=(x.gr+2),i0:=(x.gr+2 - 1),i1:=(x.gr+2),down:=false} g (.slice la x.led.length lc)) 90 (0,0))):=Hj hNb
  clear hN hNb hNk hNe hNz
  have u0:X5.cell? ⟨u,0,none⟩=some (.int .i64 x.task):=Bo HU5.out rfl
  have u1:X5.cell? ⟨u,1,none⟩=some (.pointer (some ⟨g,0,none⟩)):=Bo HU5.out rfl
  have u2:X5.cell? ⟨u,2,none⟩=some ((.slice la x.led.length lc)):=Bo HU5.out rfl
  have u3:X5.cell? ⟨u,3,none⟩=some (.int .i64 x.num):=Bo HU5.out rfl
  have u4:X5.cell? ⟨u,4,none⟩=some (.int .i64 x.att):=Bo HU5.out rfl
  have u5:X5.cell? ⟨u,5,none⟩=some (.int .i64 ((x.gr+2 - 1))):=Bo HU5.out rfl
  have u6:X5.cell? ⟨u,6,none⟩=some (.int .i64 ((x.gr+2))):=Bo HU5.out rfl
  have u7:X5.cell? ⟨u,7,none⟩=some (.int .i64 (x.gr+2)):=Bo HU5.out rfl
  have u8:X5.cell? ⟨u,8,none⟩=some (.bool false):=Bo HU5.out rfl
  have u9:X5.cell? ⟨u,9,none⟩=some (.int .i64 x.lost):=Bo HU5.out rfl
  have g9:=Bf HU5.out 9
  go_wp2
  clear u0 u1 u2 u3 u4 u5 u6 u7 u8 u9
  clear g9
  obtain ⟨X6,hN⟩:∃X,X=(X5.setCell ⟨u,9,none⟩ (.int .i64 (wrap64 (x.lost+(acnt s.image.length+1))))):=⟨_,rfl⟩
  rw[←hN]
  obtain ⟨hNb,hNk⟩:=puts_at [(9,.int .i64 (wrap64 (x.lost+(acnt s.image.length+1))))] HU5.out
  have hNe:puts X5 u [(9,.int .i64 (wrap64 (x.lost+(acnt s.image.length+1))))]=X6:=hN.symm
  have hNz:=puts_size [(9,.int .i64 (wrap64 (x.lost+(acnt s.image.length+1))))] X5 u
  rw[hNe] at hNb hNk hNz
  have HK6:=Hj hNk
  have HZ6:=Hj hNz
  have HU6:Hid (X6.heap[u]? =some (.cells (UCells {x with gr:=(x.gr+2),i0:=(x.gr+2 - 1),i1:=(x.gr+2),down:=false,lost:=wrap64 (x.lost+(acnt s.image.length+1))} g (.slice la x.led.length lc)) 90 (0,0))):=Hj hNb
  have HQ6:=Hj (HQ4.out.set (x':={x with gr:=(x.gr+2),i0:=(x.gr+2 - 1),i1:=(x.gr+2),down:=false,lost:=wrap64 (x.lost+(acnt s.image.length+1))}) (HK5.out.trans hNk (fun f hf=> .inl hf)) HU6.out (.inl ⟨rfl,rfl⟩))
  clear hN hNb hNk hNe hNz
  go_ret2
  refine ⟨rfl,HQ6.out⟩
 have e0:(m==0)=false:=by simp[hm0]
 have e1:(m==1)=false:=by simp[hm1]
 have HR2:=Hj (HR.out.trans (by rw[if_neg hm0,if_neg hm1]))
 clear hm0 hm1 HR
 go_enter Tryz.func13,Tryz.ntmps13
 go_wp2
 go_ret2
 exact ⟨_,HR2.out.symm,_,rfl,HQ.out⟩
end Go.Proofs.YtipiofgdjbogiaaGreat
