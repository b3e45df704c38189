/- the reference's store: Begin -/
import Derived.Test.YtipiofgdjbogiaaGreatKg
import Derived.Deep.CutRange
set_option maxRecDepth 100000
set_option maxHeartbeats 4000000
namespace Go.Im
open Go Go.Txt Go.RowKit Go.Bs Go.Cl Go.Rw Go.Un
theorem same_put {q p j:Nat} {u w:World} {v:Value} (h:SameB [q] u w) (hne:q≠p):SameB [q] u (w.setCell ⟨p,j,none⟩ v):=
 same_keep h ((Keep.refl [p] w).setCell (by simp) _) (fun x hx hm=>by rw[List.mem_singleton] at hx hm;exact hne (hx.symm.trans hm))
theorem bg_app {F:List Nat} {u w3:World} {p g q:Nat} {A B C:Obj} {v3:Value} {b:List UInt8} (hP:u.heap[p]? =some A) (hR:u.heap[g]? =some B) (hQ:u.heap[q]? =some C)
  (hown:w3.ownsRow u.heap.size 5 1 v3 b.length (bytesV b)) (hb:Below u.heap.size u w3) (hS:SameB [q] u u) (hF:∀f∈F,f<u.heap.size):
  Hid (w3.heap[p]? =some A)∧Hid (w3.heap[g]? =some B)∧Hid (w3.heap[q]? =some C)∧Hid (Bytes (p::g::F) w3 v3 b)∧Hid (Below u.heap.size u w3)∧Hid (SameB [q] u w3):=by
 have l:=fun {k:Nat} {o:Obj} (h:u.heap[k]? =some o)=>(Al h)
 refine ⟨Hj ((hb.block p (l hP)).trans hP),Hj ((hb.block g (l hR)).trans hR),Hj ((hb.block q (l hQ)).trans hQ),Hj (Bytes.row hown rfl (fun f hf=> ?_)),Hj hb,Hj (same_below' hS hb)⟩
 rcases List.mem_cons.1 hf with rfl | hf
 ·exact l hP
 rcases List.mem_cons.1 hf with rfl | hf
 ·exact l hR
 exact hF f hf
theorem heap_put4 {w:World} {g:Nat} {x0 x1 x2 x3 x4 x5 x6:Value} {t:TypeId} (h:w.heap[g]? =some (.cells #[x0,x1,x2,x3,x4,x5,x6] t (0,0))) (a2 a4 a5 a6:Value):
  ((((w.setCell ⟨g,2,none⟩ a2).setCell ⟨g,4,none⟩ a4).setCell ⟨g,5,none⟩ a5).setCell ⟨g,6,none⟩ a6).heap[g]? =some (.cells #[x0,x1,a2,x3,a4,a5,a6] t (0,0))∧
  Keep [g] w ((((w.setCell ⟨g,2,none⟩ a2).setCell ⟨g,4,none⟩ a4).setCell ⟨g,5,none⟩ a5).setCell ⟨g,6,none⟩ a6):=by
 obtain ⟨w1,e1⟩:∃w1,w1=w.setCell ⟨g,2,none⟩ a2:=⟨_,rfl⟩
 have h1:w1.heap[g]? =some (.cells #[x0,x1,a2,x3,x4,x5,x6] t (0,0)):=by rw[e1];exact heap_setCell_same w g 2 _ t a2 h
 have k1:Keep [g] w w1:=by rw[e1];exact (Keep.refl [g] w).setCell (by simp) _
 obtain ⟨w2,e2⟩:∃w2,w2=w1.setCell ⟨g,4,none⟩ a4:=⟨_,rfl⟩
 have h2:w2.heap[g]? =some (.cells #[x0,x1,a2,x3,a4,x5,x6] t (0,0)):=by rw[e2];exact heap_setCell_same w1 g 4 _ t a4 h1
 have k2:Keep [g] w w2:=by rw[e2];exact k1.setCell (by simp) _
 obtain ⟨w3,e3⟩:∃w3,w3=w2.setCell ⟨g,5,none⟩ a5:=⟨_,rfl⟩
 have h3:w3.heap[g]? =some (.cells #[x0,x1,a2,x3,a4,a5,x6] t (0,0)):=by rw[e3];exact heap_setCell_same w2 g 5 _ t a5 h2
 have k3:Keep [g] w w3:=by rw[e3];exact k2.setCell (by simp) _
 rw[←e1,←e2,←e3]
 exact ⟨heap_setCell_same w3 g 6 _ t a6 h3,k3.setCell (by simp) _⟩
def BG (F:List Nat) (u:World) (p g:Nat) (iv wv:Value) (ver:Nat) (z:Bool) (cv:Value) (b:List UInt8) (B:Obj) (w:World):Prop:=
 ∃nv,w.heap[p]? =some (.cells #[iv,wv,nv,.int .i64 ver,.bool true,.bool z,cv] 32 (0,0))∧w.heap[g]? =some B∧Bytes (p::g::F) w nv b∧Keep [p] u w
theorem bg_fin {F:List Nat} {u w3:World} {p g:Nat} {iv wv x2 x4 x5 x6 v3 cv:Value} {ver:Nat} {z:Bool} {b:List UInt8} {B:Obj}
  (hP:w3.heap[p]? =some (.cells #[iv,wv,x2,.int .i64 ver,x4,x5,x6] 32 (0,0))) (hR:w3.heap[g]? =some B) (hV:Bytes (p::g::F) w3 v3 b) (hK:Below u.heap.size u w3) (hpg:g≠p):
  BG F u p g iv wv ver z cv b B ((((w3.setCell ⟨p,2,none⟩ v3).setCell ⟨p,4,none⟩ (.bool true)).setCell ⟨p,5,none⟩ (.bool z)).setCell ⟨p,6,none⟩ cv):=by
 obtain ⟨h1,h2⟩:=heap_put4 hP v3 (.bool true) (.bool z) cv
 have lg:=(Al hR)
 refine ⟨v3,h1,(h2.block g lg (by simpa using hpg)).trans hR,Raw.keep hV h2 (fun f hf=> .inl (by rw[M1' hf];simp)) (fun f hf=> .inl hf),(Keep.of_below' hK).trans h2 (fun f hf=> .inl hf)⟩
end Go.Im
namespace Go.Proofs.YtipiofgdjbogiaaGreat
open Go.Txt Go.RowKit Go.Bs Go.Cl Go.Rw Go.Un Go.Im
theorem rbegin_any {F:List Nat} (v bv:Value) (m:Rf) (b:List UInt8) (w:World) (hg:m.Good) (hb:b.length≤24000) (hF:∀f∈F,f<w.heap.size) (h:RV F w v m) (hB:Bytes F w bv b):
  Calls Tryz.prog 53 #[v,bv] w (RN F w (rfBegin m b).1 (rfBegin m b).2.1 (rfBegin m b).2.2):=by
 have hil:m.image.length≤24000:=hg.il
 obtain ⟨image,working,next,ver,inst,rz,todo⟩:=m
 have hv:(ver:Int)≤1000000:=by have:=hg.vl;simp only at this;omega
 have htl:todo.length≤1000:=hg.tl
 obtain ⟨iv,wv,nv,tv,rfl,h1,h2,h3,h4⟩:=h
 obtain ⟨ia,ic,rfl⟩:=Rs h1
 obtain ⟨wa,wd,rfl⟩:=Rs h2
 obtain ⟨na,nc,rfl⟩:=Rs h3
 obtain ⟨ta,tc,rfl⟩:=h4.slice
 have H1:=Hj h1;have H2:=Hj h2;have H3:=Hj h3;have H4:=Hj h4
 simp only at H1 H2 H3 H4
 clear h1 h2 h3 h4 hg
 obtain ⟨ba,bc,rfl⟩:=Rs hB
 have HBw:=Hj hB;clear hB
 have hbl:(b.length:Int)≤24000:=by omega
 simp only at hil
 cases inst
 ·obtain ⟨z,hz⟩:∃z,z=decide (b.length≠image.length):=⟨_,rfl⟩
  have hzz:((b.length:Int)==(image.length:Int))= !z:=by
   rw[hz];by_cases e:b.length=image.length
   ·simp[e]
   simp[e];omega
  obtain ⟨mm,hmm⟩:∃mm:Rf,mm=⟨image,working,b,ver,true,z,dif image b⟩:=⟨_,rfl⟩
  obtain ⟨nn,hnn⟩:∃nn:Nat,nn=mm.left:=⟨_,rfl⟩
  have e1:rfBegin ⟨image,working,next,ver,false,rz,todo⟩ b=(mm,nn,0):=by
   rw[hnn,hmm];simp only[rfBegin,Rf.left,hz];by_cases e:b.length=image.length <;> simp[e]
  rw[e1]
  have Hmm:=Hj hmm;have Hnn:=Hj hnn
  clear e1 hz hmm hnn
  have hbw:=below_alloc2 w (.cells #[.slice ia image.length ic,.slice wa working.length wd,.slice na next.length nc,.int .i64 ver,.bool false,.bool rz,.slice ta todo.length tc] 32) (.cells #[.slice none 0 0,.slice none 0 0,.slice none 0 0,.int .i64 0,.bool false,.bool false,.slice none 0 0] 32)
  have HB0:=Hj (heap_alloc2_0 w (.cells #[.slice ia image.length ic,.slice wa working.length wd,.slice na next.length nc,.int .i64 ver,.bool false,.bool rz,.slice ta todo.length tc] 32) (.cells #[.slice none 0 0,.slice none 0 0,.slice none 0 0,.int .i64 0,.bool false,.bool false,.slice none 0 0] 32))
  have HR0:=Hj (heap_alloc2 w (.cells #[.slice ia image.length ic,.slice wa working.length wd,.slice na next.length nc,.int .i64 ver,.bool false,.bool rz,.slice ta todo.length tc] 32) (.cells #[.slice none 0 0,.slice none 0 0,.slice none 0 0,.int .i64 0,.bool false,.bool false,.slice none 0 0] 32))
  have hz0:((w.alloc (.cells #[.slice ia image.length ic,.slice wa working.length wd,.slice na next.length nc,.int .i64 ver,.bool false,.bool rz,.slice ta todo.length tc] 32)).alloc (.cells #[.slice none 0 0,.slice none 0 0,.slice none 0 0,.int .i64 0,.bool false,.bool false,.slice none 0 0] 32)).heap.size=w.heap.size+2:=by simp
  have HV:=Hj (RV.below (F:=F) (w':=((w.alloc (.cells #[.slice ia image.length ic,.slice wa working.length wd,.slice na next.length nc,.int .i64 ver,.bool false,.bool rz,.slice ta todo.length tc] 32)).alloc (.cells #[.slice none 0 0,.slice none 0 0,.slice none 0 0,.int .i64 0,.bool false,.bool false,.slice none 0 0] 32))) (m:=⟨image,working,next,ver,false,rz,todo⟩) ⟨_,_,_,_,rfl,H1.out,H2.out,H3.out,H4.out⟩ hbw)
  have HI:=Hj (Rb H1.out hbw);have HBb:=Hj (Rb HBw.out hbw)
  go_enter Tryz.func53,Tryz.ntmps53
  go_wp2_with fail
  refine (rdiff_any _ _ image b _ hil hb HI.out HBb.out).mono ?_
  rintro e w1 ⟨cv,rfl,hch,hb1⟩
  obtain ⟨ca,cc,rfl⟩:=hch.slice
  have hzn:((b.length:Int) != (image.length:Int))=z:=by rw[bne,hzz,Bool.not_not]
  rw[hz0] at hb1
  have hs1:=hb1.size
  have hchd:=hch
  have al0:=(Br w1.heap.size w1).alloc (Nr _) (.cells #[.int .i64 b.length,.slice ca (dif image b).length cc] 167)
  obtain ⟨u,hu⟩:∃u,u=w1.alloc (.cells #[.int .i64 b.length,.slice ca (dif image b).length cc] 167):=⟨_,rfl⟩
  obtain ⟨q,hq⟩:∃q,q=w1.heap.size:=⟨_,rfl⟩
  obtain ⟨g,hgg⟩:∃g,g=w.heap.size+1:=⟨_,rfl⟩
  obtain ⟨p,hpp⟩:∃p,p=w.heap.size:=⟨_,rfl⟩
  have hwu:Below w.heap.size w u:=by rw[hu];exact (hbw.trans (hb1.mono (by omega))).trans (al0.mono (by omega))
  have HP:=Hj (show u.heap[p]? =some (.cells #[.slice ia image.length ic,.slice wa working.length wd,.slice na next.length nc,.int .i64 ver,.bool false,.bool rz,.slice ta todo.length tc] 32 (0,0)) by rw[hpp,hu];exact (al0.block _ (by omega)).trans ((hb1.block w.heap.size (by omega)).trans HB0.out))
  have HR:=Hj (show u.heap[g]? =some (.cells #[.slice none 0 0,.slice none 0 0,.slice none 0 0,.int .i64 0,.bool false,.bool false,.slice none 0 0] 32 (0,0)) by rw[hgg,hu];exact (al0.block _ (by omega)).trans ((hb1.block (w.heap.size+1) (by omega)).trans HR0.out))
  have HQ:=Hj (show u.heap[q]? =some (.cells #[.int .i64 b.length,.slice ca (dif image b).length cc] 167 (0,0)) by rw[hq,hu];exact heap_alloc_new w1 _)
  have HWU:=Hj hwu
  have HFu:Hid (∀f∈F,f<u.heap.size):=Hj (fun f hf=>by have:=hF f hf;have:=hwu.size;omega)
  have Hpg:Hid (g≠p):=Hj (by omega)
  have Hpq:Hid (q≠p):=Hj (by omega)
  have HGw:Hid (w.heap.size≤g):=Hj (by omega)
  have HPw:Hid (w.heap.size≤p):=Hj (by omega)
  have HFp:Hid (∀f∈p::g::F,f∈F∨w.heap.size≤f):=Hj (fun f hf=>by
   rcases List.mem_cons.1 hf with rfl | hf
   ·exact .inr HPw.out
   rcases List.mem_cons.1 hf with rfl | hf
   ·exact .inr HGw.out
   exact .inl hf)
  have HCu:Hid (ChR (p::g::F) u (.slice ca (dif image b).length cc) (dif image b)):=Hj (by
   have h0:=hch.keep (F':=p::g::F) (Keep.refl [] w1) (by simp) (fun f hf=> .inl (List.mem_range.2 (by
    rw[hz0]
    rcases List.mem_cons.1 hf with rfl | hf
    ·omega
    rcases List.mem_cons.1 hf with rfl | hf
    ·omega
    have:=hF f hf;omega)))
   rw[hu];exact h0.below al0)
  have HBu:=Hj (Rb HBw.out hwu)
  have Hdl:Hid ((dif image b).length≤1000):=Hj (by have:=difK_len image b (cnt b.length);unfold dif;unfold cnt at*;omega)
  go_upto_region 6 with (fail)
  rw[←hu,←hq,←hgg,←hpp]
  clear hu hq hgg hpp hch hchd al0 hb1 hs1 hwu hbw hz0 HI HBb HV HB0 HR0
  go_cut [] from 23 to 37 (fun wx=>BG F u.drew p g (.slice ia image.length ic) (.slice wa working.length wd) ver z (.slice ca (dif image b).length cc) b (.cells #[.slice none 0 0,.slice none 0 0,.slice none 0 0,.int .i64 0,.bool false,.bool false,.slice none 0 0] 32 (0,0)) wx)
  case first=>
   have hBl:∀x∈[q],∃c e f,u.heap[x]? =some (.cells c e f):=fun x hx=>by rw[M1' hx];exact ⟨_,_,_,HQ.out⟩
   have HS0:=Hj (same_start hBl)
   refine Ty.wp_tree [q] [10] [18] [10] [1,3,4,5,9,10] (.alt [0] (.alt [2] (.alt [6,7,8,11] (.alt [12,13] (.alt [14,15] (.alt [16,17] (.alt [18] (.done) (.no)) (.no)) (.no)) (.no)) (.no)) (.alt [6,7,8] (.alt [2,11] (.alt [12,13] (.alt [14,15] (.alt [16,17] (.alt [18] (.done) (.no)) (.no)) (.no)) (.no)) (.no)) (.no))) (.alt [6,7,8] (.alt [0] (.alt [2,11] (.alt [12,13] (.alt [14,15] (.alt [16,17] (.alt [18] (.done) (.no)) (.no)) (.no)) (.no)) (.no)) (.no)) (.no))) (by kernel_rfl) (by kernel_rfl) (by kernel_rfl) (by kernel_rfl) hBl ?_
   clear hBl
   have HPd:Hid (u.drew.heap[p]? =some (.cells #[.slice ia image.length ic,.slice wa working.length wd,.slice na next.length nc,.int .i64 ver,.bool false,.bool rz,.slice ta todo.length tc] 32 (0,0))):=HP
   have HRd:Hid (u.drew.heap[g]? =some (.cells #[.slice none 0 0,.slice none 0 0,.slice none 0 0,.int .i64 0,.bool false,.bool false,.slice none 0 0] 32 (0,0))):=HR
   have HQd:Hid (u.drew.heap[q]? =some (.cells #[.int .i64 b.length,.slice ca (dif image b).length cc] 167 (0,0))):=HQ
   have HBd:Hid (Bytes F u.drew (.slice ba b.length bc) b):=HBu
   have HFd:Hid (∀f∈F,f<u.drew.heap.size):=HFu
   clear HP HR HQ HBu HFu HCu HWU
   obtain ⟨ud,hud⟩:∃ud,ud=u.drew:=⟨_,rfl⟩
   rw[←hud] at HPd HRd HQd HBd HFd HS0⊢
   have HUD:=Hj hud
   clear hud
   have HP:=HPd;have HR:=HRd;have HQ:=HQd;have HFu:=HFd
   clear HPd HRd HQd HFd
   have al:=(Br ud.heap.size ud).alloc (Nr _) (.cells #[] 5)
   have HO:=Hj (own_empty ud ud.heap.size 5 1 (Nr _))
   have HB1:=Hj (Rb HBd.out al)
   have HS1:=Hj (same_below' HS0.out al)
   have c0:ud.cell? ⟨p,0,none⟩=some (.slice ia image.length ic):=Bj HP.out 0 rfl
   have c0a:(ud.alloc (.cells #[] 5)).cell? ⟨p,0,none⟩=some (.slice ia image.length ic):=(al.cell (p:=⟨p,0,none⟩) (Al HP.out)).trans c0
   have q1:ud.cell? ⟨q,1,none⟩=some (.slice ca (dif image b).length cc):=Bj HQ.out 1 rfl
   try simp only[pick,Gs,Gz]
   go_wp2
   refine Rm ?_
   refine Wa ?_ ?_
   ·try simp only[pick,Gs,Gz]
    go_wp2
    refine Sm (Ss HS1.out) ?_
    refine Rm ?_
    refine Wa ?_ ?_
    ·try simp only[pick,Gs,Gz]
     go_wp2_with (at_builtin;refine wpList_app el22 Tryz.underlying22 HO.out HB1.out al rfl _ _ rfl rfl rfl ?c3 (Nr _) ?c5 ?_)
     case c3=>omega
     case c5=>simp
     intro v3 w3 hown3 hb3 _ _
     obtain ⟨HP3,HR3,HQ3,HV3,HK3,HS3⟩:=bg_app HP.out HR.out HQ.out hown3 hb3 HS0.out HFu.out
     have c0:w3.cell? ⟨p,0,none⟩=some (.slice ia image.length ic):=Bj HP3.out 0 rfl
     have c2:w3.cell? ⟨p,2,none⟩=some (.slice na next.length nc):=Bj HP3.out 2 rfl
     have f2:=Bf HP3.out 2
     have c4:w3.cell? ⟨p,4,none⟩=some (.bool false):=Bj HP3.out 4 rfl
     have f4:=Bf HP3.out 4
     have c5:w3.cell? ⟨p,5,none⟩=some (.bool rz):=Bj HP3.out 5 rfl
     have f5:=Bf HP3.out 5
     have c6:w3.cell? ⟨p,6,none⟩=some (.slice ta todo.length tc):=Bj HP3.out 6 rfl
     have f6:=Bf HP3.out 6
     have q1:w3.cell? ⟨q,1,none⟩=some (.slice ca (dif image b).length cc):=Bj HQ3.out 1 rfl
     obtain ⟨va,vc,rfl⟩:=Oq hown3
     clear hown3 hb3
     go_wp2
     refine Sm (Ss HS3.out) ?_
     refine Rm ?_
     refine Wq ?_
     try simp only[pick,Gs,Gz]
     go_wp2
     refine Sm (Ss HS3.out) ?_
     try simp only[pick,Gs,Gz]
     go_wp2
     refine Rm ?_
     refine Wq ?_
     try simp only[pick,Gs,Gz]
     go_wp2
     refine Sm (Ss (same_put HS3.out Hpq.out)) ?_
     try simp only[pick,Gs,Gz]
     go_wp2
     refine Rm ?_
     refine Wq ?_
     try simp only[pick,Gs,Gz]
     go_wp2
     refine Sm (Ss (same_put (same_put HS3.out Hpq.out) Hpq.out)) ?_
     try simp only[pick,Gs,Gz]
     go_wp2
     refine Rm ?_
     refine Wq ?_
     try simp only[pick,Gs,Gz]
     go_wp2
     refine Sm (Ss (same_put (same_put (same_put HS3.out Hpq.out) Hpq.out) Hpq.out)) ?_
     try simp only[pick,Gs,Gz]
     go_wp2
     refine Rm ?_
     refine Wq ?_
     try simp only[pick,Gs,Gz]
     go_wp2
     refine Sm (Ty.Shown.last rfl) ?_
     refine Rm ?_
     refine Wd (by rfl) ⟨.head _,trivial⟩ ?_
     go_wp2
     go_meet
     case rel=>(first | (rw[←HUD.out];exact bg_fin HP3.out HR3.out HV3.out HK3.out Hpg.out) | (rw[←HUD.out,hzn];exact bg_fin HP3.out HR3.out HV3.out HK3.out Hpg.out))
    refine Wq ?_
    try simp only[pick,Gs,Gz]
    go_wp2
    refine Sm (Ss HS1.out) ?_
    try simp only[pick,Gs,Gz]
    go_wp2
    refine Rm ?_
    refine Wq ?_
    try simp only[pick,Gs,Gz]
    go_wp2_with (at_builtin;refine wpList_app el22 Tryz.underlying22 HO.out HB1.out al rfl _ _ rfl rfl rfl ?c3 (Nr _) ?c5 ?_)
    case c3=>omega
    case c5=>simp
    intro v3 w3 hown3 hb3 _ _
    obtain ⟨HP3,HR3,HQ3,HV3,HK3,HS3⟩:=bg_app HP.out HR.out HQ.out hown3 hb3 HS0.out HFu.out
    have c0:w3.cell? ⟨p,0,none⟩=some (.slice ia image.length ic):=Bj HP3.out 0 rfl
    have c2:w3.cell? ⟨p,2,none⟩=some (.slice na next.length nc):=Bj HP3.out 2 rfl
    have f2:=Bf HP3.out 2
    have c4:w3.cell? ⟨p,4,none⟩=some (.bool false):=Bj HP3.out 4 rfl
    have f4:=Bf HP3.out 4
    have c5:w3.cell? ⟨p,5,none⟩=some (.bool rz):=Bj HP3.out 5 rfl
    have f5:=Bf HP3.out 5
    have c6:w3.cell? ⟨p,6,none⟩=some (.slice ta todo.length tc):=Bj HP3.out 6 rfl
    have f6:=Bf HP3.out 6
    have q1:w3.cell? ⟨q,1,none⟩=some (.slice ca (dif image b).length cc):=Bj HQ3.out 1 rfl
    obtain ⟨va,vc,rfl⟩:=Oq hown3
    clear hown3 hb3
    go_wp2
    refine Sm (Ss HS3.out) ?_
    try simp only[pick,Gs,Gz]
    go_wp2
    refine Rm ?_
    refine Wq ?_
    try simp only[pick,Gs,Gz]
    go_wp2
    refine Sm (Ss (same_put HS3.out Hpq.out)) ?_
    try simp only[pick,Gs,Gz]
    go_wp2
    refine Rm ?_
    refine Wq ?_
    try simp only[pick,Gs,Gz]
    go_wp2
    refine Sm (Ss (same_put (same_put HS3.out Hpq.out) Hpq.out)) ?_
    try simp only[pick,Gs,Gz]
    go_wp2
    refine Rm ?_
    refine Wq ?_
    try simp only[pick,Gs,Gz]
    go_wp2
    refine Sm (Ss (same_put (same_put (same_put HS3.out Hpq.out) Hpq.out) Hpq.out)) ?_
    try simp only[pick,Gs,Gz]
    go_wp2
    refine Rm ?_
    refine Wq ?_
    try simp only[pick,Gs,Gz]
    go_wp2
    refine Sm (Ty.Shown.last rfl) ?_
    refine Rm ?_
    refine Wd (by rfl) ⟨.head _,trivial⟩ ?_
    go_wp2
    go_meet
    case rel=>(first | (rw[←HUD.out];exact bg_fin HP3.out HR3.out HV3.out HK3.out Hpg.out) | (rw[←HUD.out,hzn];exact bg_fin HP3.out HR3.out HV3.out HK3.out Hpg.out))
   refine Wq ?_
   try simp only[pick,Gs,Gz]
   go_wp2
   refine Sm (Ss HS0.out) ?_
   try simp only[pick,Gs,Gz]
   go_wp2
   refine Rm ?_
   refine Wq ?_
   try simp only[pick,Gs,Gz]
   go_wp2
   refine Sm (Ss HS1.out) ?_
   refine Rm ?_
   refine Wq ?_
   try simp only[pick,Gs,Gz]
   go_wp2_with (at_builtin;refine wpList_app el22 Tryz.underlying22 HO.out HB1.out al rfl _ _ rfl rfl rfl ?c3 (Nr _) ?c5 ?_)
   case c3=>omega
   case c5=>simp
   intro v3 w3 hown3 hb3 _ _
   obtain ⟨HP3,HR3,HQ3,HV3,HK3,HS3⟩:=bg_app HP.out HR.out HQ.out hown3 hb3 HS0.out HFu.out
   have c0:w3.cell? ⟨p,0,none⟩=some (.slice ia image.length ic):=Bj HP3.out 0 rfl
   have c2:w3.cell? ⟨p,2,none⟩=some (.slice na next.length nc):=Bj HP3.out 2 rfl
   have f2:=Bf HP3.out 2
   have c4:w3.cell? ⟨p,4,none⟩=some (.bool false):=Bj HP3.out 4 rfl
   have f4:=Bf HP3.out 4
   have c5:w3.cell? ⟨p,5,none⟩=some (.bool rz):=Bj HP3.out 5 rfl
   have f5:=Bf HP3.out 5
   have c6:w3.cell? ⟨p,6,none⟩=some (.slice ta todo.length tc):=Bj HP3.out 6 rfl
   have f6:=Bf HP3.out 6
   have q1:w3.cell? ⟨q,1,none⟩=some (.slice ca (dif image b).length cc):=Bj HQ3.out 1 rfl
   obtain ⟨va,vc,rfl⟩:=Oq hown3
   clear hown3 hb3
   go_wp2
   refine Sm (Ss HS3.out) ?_
   try simp only[pick,Gs,Gz]
   go_wp2
   refine Rm ?_
   refine Wq ?_
   try simp only[pick,Gs,Gz]
   go_wp2
   refine Sm (Ss (same_put HS3.out Hpq.out)) ?_
   try simp only[pick,Gs,Gz]
   go_wp2
   refine Rm ?_
   refine Wq ?_
   try simp only[pick,Gs,Gz]
   go_wp2
   refine Sm (Ss (same_put (same_put HS3.out Hpq.out) Hpq.out)) ?_
   try simp only[pick,Gs,Gz]
   go_wp2
   refine Rm ?_
   refine Wq ?_
   try simp only[pick,Gs,Gz]
   go_wp2
   refine Sm (Ss (same_put (same_put (same_put HS3.out Hpq.out) Hpq.out) Hpq.out)) ?_
   try simp only[pick,Gs,Gz]
   go_wp2
   refine Rm ?_
   refine Wq ?_
   try simp only[pick,Gs,Gz]
   go_wp2
   refine Sm (Ty.Shown.last rfl) ?_
   refine Rm ?_
   refine Wd (by rfl) ⟨.head _,trivial⟩ ?_
   go_wp2
   go_meet
   case rel=>(first | (rw[←HUD.out];exact bg_fin HP3.out HR3.out HV3.out HK3.out Hpg.out) | (rw[←HUD.out,hzn];exact bg_fin HP3.out HR3.out HV3.out HK3.out Hpg.out))
  case rest=>
   obtain ⟨nv,hp',hg',hnv,hkp⟩:=hcut
   obtain ⟨na',nc',rfl⟩:=Rs hnv
   have kb:=hkp.size
   have HRV:Hid (RV (p::g::F) wc (.agg #[.slice ia image.length ic,.slice wa working.length wd,.slice na' b.length nc',.int .i64 ver,.bool true,.bool z,.slice ca (dif image b).length cc]) ⟨image,working,b,ver,true,z,dif image b⟩):=Hj (by
    have tr:=fun {l:List UInt8} {x:Value} (hx:Bytes F w x l)=>Raw.keep (F':=p::g::F) (Raw.keep (F':=p::g::F) hx (Keep.of_below' (F:=[]) HWU.out) (by simp) HFp.out).drew hkp (fun f hf=> .inl (by rw[M1' hf];simp)) (fun f hf=> .inl hf)
    exact ⟨_,_,_,_,rfl,tr H1.out,tr H2.out,hnv,ChR.keep (w:=u.drew) HCu.out hkp (fun f hf=> .inl (by rw[M1' hf];simp)) (fun f hf=> .inl hf)⟩)
   have HPc:=Hj hp';have HGc:=Hj hg'
   have HBwc:Hid (Below w.heap.size w wc):=Hj (HWU.out.drew.trans (hkp.below (B:=w.heap.size) HWU.out.size (fun f hf=>by rw[M1' hf];exact HPw.out)))
   have hBl:∀x∈[p],∃c e f,wc.heap[x]? =some (.cells c e f):=fun x hx=>by rw[M1' hx];exact ⟨_,_,_,HPc.out⟩
   have HS0:=Hj (same_start hBl)
   have c0:wc.cell? ⟨p,0,none⟩=some (.slice ia image.length ic):=Bj HPc.out 0 rfl
   have c1:wc.cell? ⟨p,1,none⟩=some (.slice wa working.length wd):=Bj HPc.out 1 rfl
   have c2:wc.cell? ⟨p,2,none⟩=some (.slice na' b.length nc'):=Bj HPc.out 2 rfl
   have c3:wc.cell? ⟨p,3,none⟩=some (.int .i64 ver):=Bj HPc.out 3 rfl
   have c4:wc.cell? ⟨p,4,none⟩=some (.bool true):=Bj HPc.out 4 rfl
   have c5:wc.cell? ⟨p,5,none⟩=some (.bool z):=Bj HPc.out 5 rfl
   have c6:wc.cell? ⟨p,6,none⟩=some (.slice ca (dif image b).length cc):=Bj HPc.out 6 rfl
   clear hp' hg' hnv hkp kb HP HR HQ HCu HBu HWU
   go_wp2
   refine Ty.wp_tree [p] [0,1] [3] [0,1] [0,1] (.alt [2] (.alt [3,4,5] (.done) (.no)) (.no)) (by kernel_rfl) (by kernel_rfl) (by kernel_rfl) (by kernel_rfl) hBl ?_
   clear hBl
   try simp only[pick,Gs,Gz]
   go_wp2
   refine Rm ?_
   refine Wq ?_
   try simp only[pick,Gs,Gz]
   go_wp2_with fail
   refine (rleft_any (F:=p::g::F) _ ⟨image,working,b,ver,true,z,dif image b⟩ _ Hdl.out (HRV.out.below (Br wc.heap.size wc).drew)).mono ?_
   rw[←Hmm.out,←Hnn.out]
   rintro e w2 ⟨rfl,hb2⟩
   have HB2:Hid (Below wc.heap.size wc w2):=Hj ((Br wc.heap.size wc).drew.trans hb2)
   have HS2:=Hj (same_below' HS0.out hb2)
   have HG2:=Hj ((HB2.out.block g (Al HGc.out)).trans HGc.out)
   have r0:w2.cell? ⟨g,0,none⟩=some (.slice none 0 0):=Bj HG2.out 0 rfl
   have r1:w2.cell? ⟨g,1,none⟩=some (.slice none 0 0):=Bj HG2.out 1 rfl
   have r2:w2.cell? ⟨g,2,none⟩=some (.slice none 0 0):=Bj HG2.out 2 rfl
   have r3:w2.cell? ⟨g,3,none⟩=some (.int .i64 0):=Bj HG2.out 3 rfl
   have r4:w2.cell? ⟨g,4,none⟩=some (.bool false):=Bj HG2.out 4 rfl
   have r5:w2.cell? ⟨g,5,none⟩=some (.bool false):=Bj HG2.out 5 rfl
   have r6:w2.cell? ⟨g,6,none⟩=some (.slice none 0 0):=Bj HG2.out 6 rfl
   have f0:=Bf HG2.out 0
   have f1:=Bf HG2.out 1
   have f2:=Bf HG2.out 2
   have f3:=Bf HG2.out 3
   have f4:=Bf HG2.out 4
   have f5:=Bf HG2.out 5
   have f6:=Bf HG2.out 6
   clear hb2
   go_wp2
   refine Sm (Ss HS2.out) ?_
   refine Rm ?_
   refine Wq ?_
   try simp only[pick,Gs,Gz]
   go_wp2
   refine Sm (Ty.Shown.last rfl) ?_
   try simp only[pick,Gs,Gz]
   go_wp2
   refine Rm ?_
   refine Wd (by rfl) ⟨.head _,.head _,trivial⟩ ?_
   go_wp2
   obtain ⟨s1,s2,s3⟩:=RV.sets (u:=w) (F:=F) _ _ _ _ _ _ _ HG2.out (HBwc.out.trans (HB2.out.mono HBwc.out.size)) HGw.out (m:=⟨image,working,b,ver,true,z,dif image b⟩) (iv:= .slice ia image.length ic) (wv:= .slice wa working.length wd) (nv:= .slice na' b.length nc') (tv:= .slice ca (dif image b).length cc)
    ((RV.below HRV.out HB2.out).keep (F':=g::F) (Keep.refl [] w2) (by simp) (fun f hf=> .inl (List.mem_cons_of_mem _ hf)))
   refine bodyPost_ret (results_ctt rfl _ _ _ _ _ _ _ rfl s1 Tryz.underlying32 rfl (by kernel_rfl)) rfl ?_
   exact ⟨_,rfl,by rw[Hmm.out];exact s2,s3⟩
 have e1:rfBegin ⟨image,working,next,ver,true,rz,todo⟩ b=(⟨image,working,next,ver,true,rz,todo⟩,0,7):=by simp[rfBegin]
 rw[e1]
 clear e1
 go_enter Tryz.func53,Tryz.ntmps53
 go_wp2
 refine bodyPost_ret (results_ctt rfl _ _ _ _ _ _ _ rfl (heap_alloc2 _ _ _) Tryz.underlying32 rfl (by kernel_rfl)) rfl ?_
 exact ⟨_,rfl,RV.below ⟨_,_,_,_,rfl,H1.out,H2.out,H3.out,H4.out⟩ (below_alloc2 _ _ _),below_alloc2 _ _ _⟩
end Go.Proofs.YtipiofgdjbogiaaGreat
