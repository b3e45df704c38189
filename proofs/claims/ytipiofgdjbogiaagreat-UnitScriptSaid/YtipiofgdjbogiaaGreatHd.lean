/- unit: a unit moved on; install -/
import Derived.Test.YtipiofgdjbogiaaGreatHc
import Derived.WalkMore
set_option maxRecDepth 100000
set_option maxHeartbeats 2000000
namespace Go.Im
open Go Go.Txt Go.RowKit Go.Bs Go.Cl Go.Rw Go.Un Go.Fa
def UQ (w:World) (base u g h:Nat) (iv rv lv:Value) (x:Us) (s:Ps) (L:List Nat) (K:List (Value×List Lg.Lt)) (w':World):Prop:=
 ∃iv' rv',UAt w' base u g h iv' rv' lv x s∧Keep (UF u g h iv rv) w w'∧(∀f∈UF u g h iv' rv',f∉L∧(f∈UF u g h iv rv∨w.heap.size≤f))∧Raw (L++UF u g h iv' rv') 2 w' lv x.led.length (x.led.flatMap Lg.encL)∧∀p∈K,Raw (L++UF u g h iv' rv') 2 w' p.1 p.2.length (p.2.flatMap Lg.encL)
def cutd (p:FP) (hit:Bool) (n:Nat):Nat:=if p.k=8∧hit=true∧0≤p.s∧p.s<n then p.s.toNat else n
theorem cutd_le (p:FP) (hit:Bool) (n:Nat):cutd p hit n≤n:=by unfold cutd;split <;> omega
theorem cutd_lt {p:FP} {hit:Bool} {n k:Nat} (hk:k≤cutd p hit n) (hn:k<n):(p.k=8∧hit=true∧(k:Int)=p.s)↔k=cutd p hit n:=by
 have e:cutd p hit n=if p.k=8∧hit=true∧0≤p.s∧p.s<n then p.s.toNat else n:=rfl
 by_cases h:p.k=8∧hit=true∧0≤p.s∧p.s<n
 ·rw[if_pos h] at e
  rw[e] at hk⊢
  obtain ⟨h1,h2,h3,h4⟩:=h
  constructor
  ·rintro ⟨_,_,e⟩;omega
  intro e;exact ⟨h1,h2,by omega⟩
 rw[if_neg h] at e
 rw[e] at hk⊢
 constructor
 ·rintro ⟨h1,h2,e⟩;exact absurd ⟨h1,h2,by omega,by omega⟩ h
 intro e;omega
variable {base u g h:Nat} {L L':List Nat} {K:List (Value×List Lg.Lt)} {iv rv lv lv':Value} {x x':Us} {s s' s'':Ps} {w w' w'':World}
theorem UQ.start (H:UAt w base u g h iv rv lv x s) (hb:Below w.heap.size w w') (hL:∀z∈L,w.heap.size≤z):UQ w base u g h iv rv lv x s L [] w':=
 ⟨iv,rv,H.below hb,Keep.of_below' hb,fun f hf=>⟨fun hm=>by have:=H.ufl f hf;have:=hL f hm;omega,.inl hf⟩,Rb (Raw.fresh H.hl (fun f hf=>by
  rcases List.mem_append.1 hf with h | h
  ·exact .inr (hL f h)
  exact .inl h)) hb,fun p hp=>by cases hp⟩
theorem UQ.start' {L0:List Nat} (H:UAt w base u g h iv rv lv x s) (h0:∀z∈L0,z<w.heap.size∧z∉UF u g h iv rv) (hr:Raw (L0++UF u g h iv rv) 2 w lv x.led.length (x.led.flatMap Lg.encL)) (hb:Below w.heap.size w w') (hL:∀z∈L,z∈L0∨w.heap.size≤z):UQ w base u g h iv rv lv x s L [] w':=
 ⟨iv,rv,H.below hb,Keep.of_below' hb,fun f hf=>⟨fun hm=>by
  rcases hL f hm with h | h
  ·exact (h0 f h).2 hf
  ·have:=H.ufl f hf;omega,.inl hf⟩,Rb (Raw.fresh hr (fun f hf=>by
  rcases List.mem_append.1 hf with h | h
  ·rcases hL f h with h | h
   ·exact .inl (List.mem_append_left _ h)
   exact .inr h
  exact .inl (List.mem_append_right _ h))) hb,fun p hp=>by cases hp⟩
theorem UQ.sub (Q:UQ w base u g h iv rv lv x s L K w') (hL:∀z∈L',z∈L):UQ w base u g h iv rv lv x s L' [] w':=by
 obtain ⟨iv',rv',H,k,f,r,_⟩:=Q
 refine ⟨iv',rv',H,k,fun z hz=>⟨fun hm=>(f z hz).1 (hL z hm),(f z hz).2⟩,Raw.keep r (Keep.refl [] w') (fun q hq=>by cases hq) (fun q hq=> ?_),fun p hp=>(by cases hp)⟩
 rcases List.mem_append.1 hq with h | h
 ·exact .inl (List.mem_append_left _ (hL q h))
 exact .inl (List.mem_append_right _ h)
theorem UQ.at (Q:UQ w base u g h iv rv lv x s' L K w'):∃iv rv,UAt w' base u g h iv rv lv x s':=by
 obtain ⟨iv',rv',H,_⟩:=Q
 exact ⟨iv',rv',H⟩
theorem UQ.size (Q:UQ w base u g h iv rv lv x s' L K w'):w.heap.size≤w'.heap.size:=by
 obtain ⟨_,_,_,k,_⟩:=Q
 exact k.size
theorem UQ.block (Q:UQ w base u g h iv rv lv x s' L K w') {z:Nat} (hz:z<w.heap.size) (hn:z∉UF u g h iv rv):w'.heap[z]? =w.heap[z]? :=by
 obtain ⟨_,_,_,k,_⟩:=Q
 exact k.block z hz hn
theorem UQ.cells (Q:UQ w base u g h iv rv lv x s' L K w'):w'.heap[u]? =some (.cells (UCells x g lv) 90 (0,0)):=by
 obtain ⟨_,_,H,_,_⟩:=Q
 exact H.hu
theorem UQ.below (Q:UQ w base u g h iv rv lv x s' L K w') (hb:Below w'.heap.size w' w''):UQ w base u g h iv rv lv x s' L K w'':=by
 obtain ⟨iv',rv',H,k,f,r,rk⟩:=Q
 exact ⟨iv',rv',H.below hb,k.trans (Keep.of_below' (F:=[]) hb) (fun f hf=>by cases hf),f,Rb r hb,fun p hp=>Rb (rk p hp) hb⟩
theorem UQ.more (Q:UQ w base u g h iv rv lv x s' L K w') (hb:Below w'.heap.size w' w'') (hL:∀z∈L',z∈L∨w'.heap.size≤z):UQ w base u g h iv rv lv x s' L' K w'':=by
 obtain ⟨iv',rv',H,k,f,r,rk⟩:=Q
 have hF:∀z∈L'++UF u g h iv' rv',z∈L++UF u g h iv' rv'∨w'.heap.size≤z:=fun z hz=>by
  rcases List.mem_append.1 hz with h | h
  ·rcases hL z h with h | h
   ·exact .inl (List.mem_append_left _ h)
   exact .inr h
  exact .inl (List.mem_append_right _ h)
 refine ⟨iv',rv',H.below hb,k.trans (Keep.of_below' (F:=[]) hb) (fun f hf=>by cases hf),fun z hz=>⟨fun hm=> ?_,(f z hz).2⟩,Rb (Raw.fresh r hF) hb,fun p hp=>Rb (Raw.fresh (rk p hp) hF) hb⟩
 rcases hL z hm with h | h
 ·exact (f z hz).1 h
 have:=H.ufl z hz;omega
theorem UQ.row (Q:UQ w base u g h iv rv lv x s' L K w') (hb:Below w'.heap.size w' w'') (hL:∀z∈L,z<w'.heap.size) {v:Value} {l:List Lg.Lt} (hv:Lg.LowL w'.heap.size w'' v l):UQ w base u g h iv rv lv x s' L ((v,l)::K) w'':=by
 obtain ⟨iv',rv',H,k,f,r,rk⟩:=Q
 refine ⟨iv',rv',H.below hb,k.trans (Keep.of_below' (F:=[]) hb) (fun f hf=>by cases hf),f,Rb r hb,fun p hp=> ?_⟩
 rcases List.mem_cons.1 hp with rfl | hp
 ·refine hv _ (fun z hz=> ?_)
  rcases List.mem_append.1 hz with h | h
  ·exact hL z h
  exact H.ufl z h
 exact Rb (rk p hp) hb
def VBox (w:World) (R:Nat):Prop:=∃a b,w.heap[R]? =some (.cells #[.int .i64 a,.int .i64 b] 68 (0,0))
theorem VBox.at {R:Nat} (h:VBox w R) {j:Nat} {x:Value} (hj:w.cell? ⟨R,j,none⟩=some x):∃n,x= .int .i64 n:=by
 obtain ⟨a,b,hc⟩:=h
 simp only[World.cell?,hc] at hj
 match j,hj with
 | 0,hj=>simp at hj;exact ⟨_,hj.symm⟩
 | 1,hj=>simp at hj;exact ⟨_,hj.symm⟩
 | j+2,hj=>simp at hj
theorem bytes_outV {F:List Nat} {v:Value} {l:List UInt8} {R:Nat} (h:Bytes F w v l) (hR:VBox w R):Bytes (R::F) w v l:=by
 obtain ⟨h1,h2,a,cap,rfl,h3,h4,h5⟩:=h
 refine ⟨h1,h2,a,cap,rfl,h3,h4,fun h0=> ?_⟩
 obtain ⟨b,off,rfl,q1,q2,q3⟩:=h5 h0
 refine ⟨b,off,rfl,q1,fun hm=> ?_,q3⟩
 rcases List.mem_cons.1 hm with rfl | hm
 ·have hc:=q3 0 (byteV (l[0]'h0)) (by unfold bytesV;rw[List.getElem?_map,List.getElem?_eq_getElem h0];rfl)
  obtain ⟨_,e⟩:=hR.at hc
  simp[byteV] at e
 exact q2 hm
theorem chr_outV {F:List Nat} {v:Value} {R:Nat} {cl:List (Nat×List UInt8)} (h:ChR F w v cl) (hR:VBox w R):ChR (R::F) w v cl:=by
 obtain ⟨cs,e,h,hb⟩:=h
 refine ⟨cs,e, ?_,fun p hp=>bytes_outV (hb p hp) hR⟩
 obtain ⟨h1,h2,a,cap,rfl,h3,h4,h5⟩:=h
 refine ⟨h1,h2,a,cap,rfl,h3,h4,fun h0=> ?_⟩
 obtain ⟨b,off,rfl,q1,q2,q3⟩:=h5 h0
 refine ⟨b,off,rfl,q1,fun hm=> ?_,q3⟩
 rcases List.mem_cons.1 hm with rfl | hm
 ·obtain ⟨p,ps,rfl⟩:∃p ps,cs=p::ps:=by cases cs with
   | nil=>simp at h0
   | cons p ps=>exact ⟨p,ps,rfl⟩
  obtain ⟨pa,pc,hpv⟩:=Rs (hb p (by simp))
  have c1:=q3 1 p.2 (by simp[encC])
  rw[hpv] at c1
  obtain ⟨_,e⟩:=hR.at c1
  cases e
 exact q2 hm
theorem StB.apartV {R:Nat} {imv nxv chv:Value} {rz:Bool} {rs:List (Rec×Value)} (H:StB w base g h iv rv imv nxv chv rz rs s) (hR:VBox w R):R∉g::LogF h iv rv:=fun hm=>by
 have ne:∀{k:Nat} {cs:Array Value} {t:TypeId},w.heap[k]? =some (.cells cs t (0,0))→t≠68→R≠k:=fun hk ht hm=>by
  subst hm;obtain ⟨a,b,hc⟩:=hR;rw[hc] at hk;cases hk;exact ht rfl
 simp only[LogF,List.mem_cons,List.mem_append] at hm
 rcases hm with rfl | rfl | hm | hm
 ·exact ne H.hc (by decide) rfl
 ·exact ne H.hl.hc (by decide) rfl
 ·obtain ⟨cur,hc⟩:=own_type H.hl.hi (r:=R) (by simpa using hm)
  exact ne hc (by decide) rfl
 obtain ⟨cur,hc⟩:=H.hl.hr.type (r:=R) (by simpa using hm)
 exact ne hc (by decide) rfl
theorem StB.besideV {R:Nat} {imv nxv chv:Value} {rz:Bool} {rs:List (Rec×Value)} (H:StB w base g h iv rv imv nxv chv rz rs s) (hR:VBox w R) (hk:Keep [R] w w'):StB w' base g h iv rv imv nxv chv rz rs s:=by
 have hn:=H.apartV hR
 have hnl:R∉LogF h iv rv:=fun hm=>hn (List.mem_cons_of_mem _ hm)
 have kp:∀{F:List Nat} {x:Value} {l:List UInt8},Bytes F w x l→Bytes F w' x l:=fun hx=>Raw.keep (bytes_outV hx hR) hk (fun f hf=> .inl (by rw[M1' hf];simp)) (fun f hf=> .inl (List.mem_cons_of_mem _ hf))
 have hgR:g∉[R]:=fun hm=>hn (by rw[List.mem_singleton] at hm;simp[hm])
 have hll:=LogAt.beside H.hl hk hnl (fun p hp=>Raw.keep (F':=[R]) (bytes_outV (H.hr p hp) hR) (Keep.refl [] w) (by simp) (fun f hf=> .inl (by rw[M1' hf];simp)))
 have hcc:=(chr_outV H.hch hR).keepc hk (fun f hf=> .inl (by rw[M1' hf];simp)) (fun f hf=> .inl (List.mem_cons_of_mem _ hf))
 exact {good:=H.good,hg:=H.hg,hc:=(hk.block g H.lt hgR).trans H.hc,hl:=hll,hn:=H.hn,hi:=kp H.hi,hx:=kp H.hx,hch:=hcc,hr:=fun p hp=>kp (H.hr p hp),ok:=H.ok,tk:=H.tk,rl:=H.rl,rzv:=H.rzv}
theorem UQ.own (Q:UQ w base u g h iv rv lv x s' L K w') {z:Nat} (hz:z∈L) (hw:w.heap.size≤z) (hV:VBox w' z) (hk:Keep [z] w' w''):UQ w base u g h iv rv lv x s' L K w'':=by
 obtain ⟨iv',rv',H,k,f,r,rk⟩:=Q
 have kp:∀{v:Value} {n:Nat} {xs:List Value},Raw (L++UF u g h iv' rv') 2 w' v n xs→Raw (L++UF u g h iv' rv') 2 w'' v n xs:=fun r=>Raw.keep r hk (fun q hq=>by rw[M1' hq];exact .inl (List.mem_append_left _ hz)) (fun q hq=> .inl hq)
 have r':=kp r
 refine ⟨iv',rv',⟨?_, ?_,Raw.keep r' (Keep.refl [] w'') (fun q hq=>by cases hq) (fun q hq=> .inl (List.mem_append_right _ hq))⟩,k.trans hk (fun q hq=>by rw[M1' hq];exact .inr hw),f,r',fun p hp=>kp (rk p hp)⟩
 ·exact (hk.block u H.lt (fun hm=>by rw[List.mem_singleton] at hm;subst hm;exact (f u (by simp[UF])).1 hz)).trans H.hu
 obtain ⟨imv,nxv,chv,rz,rs,HB⟩:=H.hs
 exact ⟨imv,nxv,chv,rz,rs,HB.besideV hV hk⟩
theorem UQ.set (Q:UQ w base u g h iv rv lv x s' L K w') (hk:Keep [u] w' w'') (hu:w''.heap[u]? =some (.cells (UCells x' g lv') 90 (0,0))) (hl:(lv'=lv∧x'.led=x.led)∨(lv',x'.led)∈K):UQ w base u g h iv rv lv' x' s' L K w'':=by
 obtain ⟨iv',rv',H,k,f,r,rk⟩:=Q
 have r2:Raw (L++UF u g h iv' rv') 2 w' lv' x'.led.length (x'.led.flatMap Lg.encL):=by
  rcases hl with ⟨rfl,e⟩ | hl
  ·rw[e];exact r
  exact rk _ hl
 have kp:∀{v:Value} {n:Nat} {xs:List Value},Raw (L++UF u g h iv' rv') 2 w' v n xs→Raw (L++UF u g h iv' rv') 2 w'' v n xs:=fun r=>Raw.keep r hk (fun q hq=>by rw[M1' hq];exact .inl (List.mem_append_right _ (by simp[UF]))) (fun q hq=> .inl hq)
 exact ⟨iv',rv',H.set hk hu (Raw.keep r2 (Keep.refl [] w') (fun q hq=>by cases hq) (fun q hq=> .inl (List.mem_append_right _ hq))),k.trans hk (fun q hq=>by rw[M1' hq];exact .inl (by simp[UF])),f,kp r2,fun p hp=>kp (rk p hp)⟩
theorem UQ.take (Q:UQ w base u g h iv rv lv x s' L K w') (hL:∀z∈L,z<w'.heap.size):∃iv1 rv1,UAt w' base u g h iv1 rv1 lv x s'∧(∀z∈L,z∉UF u g h iv1 rv1)∧(∀{v:Value} {l:List UInt8},Bytes (UF u g h iv rv) w v l→Bytes (UF u g h iv1 rv1) w' v l)∧
  (∀(s'':Ps) (w'':World),StQ w' base g h iv1 rv1 s'' w''→UQ w base u g h iv rv lv x s'' L K w'')∧∀(s'':Ps) (L':List Nat) (K':List (Value×List Lg.Lt)) (w'':World),UQ w' base u g h iv1 rv1 lv x s'' L' K' w''→UQ w base u g h iv rv lv x s'' L K w'':=by
 obtain ⟨iv',rv',H,k,f,r,rk⟩:=Q
 have nx:∀{iv2 rv2:Value} {w'':World} {s'':Ps},UAt w'' base u g h iv2 rv2 lv x s''→Keep (UF u g h iv' rv') w' w''→(∀z∈UF u g h iv2 rv2,z∈UF u g h iv' rv'∨w'.heap.size≤z)→UQ w base u g h iv rv lv x s'' L K w'':=by
  intro iv2 rv2 w'' s'' H2 k2 f2
  have hF:∀q∈L++UF u g h iv2 rv2,q∈L++UF u g h iv' rv'∨w'.heap.size≤q:=fun q hq=>by
   rcases List.mem_append.1 hq with h | h
   ·exact .inl (List.mem_append_left _ h)
   rcases f2 q h with h | h
   ·exact .inl (List.mem_append_right _ h)
   exact .inr h
  refine ⟨_,_,H2,k.trans k2 (fun z hz=>(f z hz).2),fun z hz=> ?_,Raw.keep r k2 (fun q hq=> .inl (List.mem_append_right _ hq)) hF,fun p hp=>Raw.keep (rk p hp) k2 (fun q hq=> .inl (List.mem_append_right _ hq)) hF⟩
  rcases f2 z hz with h | h
  ·exact f z h
  exact ⟨fun hm=>by have:=hL z hm;omega,by have:=k.size;omega⟩
 refine ⟨iv',rv',H,fun z hz hm=>(f z hm).1 hz,fun hB=>Raw.keep hB k (fun f hf=> .inl hf) (fun z hz=>(f z hz).2),fun _ _ R=> ?_,fun _ _ _ _ R=> ?_⟩
 ·obtain ⟨iv2,rv2,H2,k2,f2⟩:=H.store R
  exact nx H2 k2 f2
 obtain ⟨iv2,rv2,H2,k2,f2,_⟩:=R
 exact nx H2 k2 (fun z hz=>(f2 z hz).2)
end Go.Im
namespace Go.Proofs.YtipiofgdjbogiaaGreat
open Go.Txt Go.RowKit Go.Bs Go.Cl Go.Rw Go.Un Go.Im Go.Fa
theorem ststep_yes {base g h:Nat} {iv rv:Value} {s:Ps} (w:World) (H:StAt w base g h iv rv s) (hi:s.inst=true) (hd:s.done<s.steps):Calls Tryz.prog 76 #[.pointer (some ⟨g,0,none⟩)] w fun e w'=>e= .returned (.tuple #[.int .i64 ((s.steps - (s.done+1):Nat)),.int .i64 0])∧StQ w base g h iv rv (stepped s) w':=by
 by_cases hz:rzn s.image s.next≤s.done
 ·exact ststep_page w H hi hd hz
 have hz1:rzb s.image s.next=true:=by
  rw[rzn_of] at hz
  cases h:rzb s.image s.next <;> simp_all
 exact ststep_size w H hi hd hz1 (by rw[rzn_of,hz1] at hz;simp at hz;omega)
theorem install_any {base u g h:Nat} {iv rv lv:Value} {x:Us} {s:Ps} {w:World} (H:UAt w base u g h iv rv lv x s) (p:FP) (im:List UInt8) (bv:Value) (hs:s.inst=false) (him:im.length≤24000) (hB:Bytes (UF u g h iv rv) w bv im):
  Calls Tryz.prog 48 #[.pointer (some ⟨u,0,none⟩),.agg p.cs,bv] w fun e w'=>e= .returned (.tuple #[.int .i64 (cutd p (p.hits x.task x.num x.att) (tot s.image im)),.bool (decide (cutd p (p.hits x.task x.num x.att) (tot s.image im)=tot s.image im))])∧UQ w base u g h iv rv lv x ⟨s.image,s.ver,true,im,cutd p (p.hits x.task x.num x.att) (tot s.image im)⟩ [w.heap.size] [] w':=by
 obtain ⟨N,hN⟩:∃N,N=tot s.image im:=⟨_,rfl⟩
 have hN':N≤1000:=by rw[hN];exact tot_le1000 him
 obtain ⟨hit,hhit⟩:∃b,b=p.hits x.task x.num x.att:=⟨_,rfl⟩
 obtain ⟨D,hD⟩:∃D,D=cutd p hit N:=⟨_,rfl⟩
 have hDN:D≤N:=by rw[hD];exact cutd_le _ _ _
 rw[←hN,←hhit,←hD]
 have hcut:∀k:Nat,k≤D→k<N→((p.k=8∧hit=true∧(k:Int)=p.s)↔k=D):=fun k h1 h2=>by rw[hD] at h1⊢;exact cutd_lt h1 h2
 have HC:=Hj hcut;have HNN:=Hj hN;have HHit:=Hj hhit
 clear hN hhit hD hcut
 obtain ⟨bi,bc,rfl⟩:=Rs hB
 simp only[FP.cs]
 obtain ⟨P,hP⟩:∃P,P=w.heap.size:=⟨_,rfl⟩
 obtain ⟨W,hW⟩:∃W,W=w.alloc (.cells #[.int .i64 p.c,.int .i64 p.n,.int .i64 p.e,.int .i64 p.k,.int .i64 p.s,.int .i64 p.pl,.int .i64 p.m] 56):=⟨_,rfl⟩
 rw[←hP]
 have HW:=Hj hW
 have hb:Below w.heap.size w W:=by rw[hW];exact (Br _ w).alloc (Nr _) _
 have HQ:=Hj (UQ.start (L:=[P]) H hb (fun z hz=>by rw[M1' hz];omega))
 have HPW:Hid (W.heap[P]? =some (.cells #[.int .i64 p.c,.int .i64 p.n,.int .i64 p.e,.int .i64 p.k,.int .i64 p.s,.int .i64 p.pl,.int .i64 p.m] 56 (0,0))):=Hj (by rw[hW,hP];exact heap_alloc_new w _)
 have hPW:P<W.heap.size:=(Al HPW.out)
 have HBB:=Hj hB
 have HHs:=Hj hs
 clear hW hb hB hs
 go_enter Tryz.func48,Tryz.ntmps48
 go_upto_region 1 with (fail)
 rw[←HW.out,←hP]
 clear hP HW
 have hu:=(UQ.at HQ.out).choose_spec.choose_spec.hu
 have u0:W.cell? ⟨u,0,none⟩=some (.int .i64 x.task):=Bo hu rfl
 have u1:W.cell? ⟨u,1,none⟩=some (.pointer (some ⟨g,0,none⟩)):=Bo hu rfl
 have u2:W.cell? ⟨u,2,none⟩=some (_):=Bo hu rfl
 have u3:W.cell? ⟨u,3,none⟩=some (.int .i64 x.num):=Bo hu rfl
 have u4:W.cell? ⟨u,4,none⟩=some (.int .i64 x.att):=Bo hu rfl
 have u5:W.cell? ⟨u,5,none⟩=some (.int .i64 x.i0):=Bo hu rfl
 have u6:W.cell? ⟨u,6,none⟩=some (.int .i64 x.i1):=Bo hu rfl
 have u7:W.cell? ⟨u,7,none⟩=some (.int .i64 x.gr):=Bo hu rfl
 have u8:W.cell? ⟨u,8,none⟩=some (.bool x.down):=Bo hu rfl
 have u9:W.cell? ⟨u,9,none⟩=some (.int .i64 x.lost):=Bo hu rfl
 clear hu
 obtain ⟨iv1,rv1,hst,hPn',hby,hnx,hno⟩:=HQ.out.take (fun z hz=>by rw[M1' hz];exact hPW)
 have hPn:P∉g::LogF h iv1 rv1:=fun hm=>hPn' P (by simp) (List.mem_cons_of_mem _ hm)
 clear hno hPn'
 have HST:=Hj hst.hs;have HBY:=Hj (Raw.keep (F':=g::LogF h iv1 rv1) (hby HBB.out) (Keep.refl [] W) (fun f hf=>by cases hf) (fun f hf=> .inl (List.mem_cons_of_mem _ hf)));have HNX:=Hj hnx
 clear hst hby hnx
 go_step3
 go_wp2_with fail
 refine (stbegin_yes _ im _ HST.out HHs.out him HBY.out).mono ?_
 rw[←HNN.out]
 rintro e w1 ⟨rfl,hQ⟩
 have hk1:Keep (g::LogF h iv1 rv1) W w1:=by obtain ⟨_,_,_,k,_⟩:=hQ;exact k
 have hz1:=hk1.size
 have HP1:=Hj ((hk1.block P hPW hPn).trans HPW.out)
 have HQ1:=Hj (HNX.out _ _ hQ)
 clear u0 u1 u2 u3 u4 u5 u6 u7 u8 u9 hk1 hQ
 have hPz1:P<w1.heap.size:=by omega
 clear HQ HPW hPW HST HBY HNX hPn hz1
 go_wp2
 go_step3
 go_wp2
 go_loopw [10] (fun i wr=>∃k:Nat,k≤D∧i= .int .i64 (k:Int)∧UQ w base u g h iv rv lv x ⟨s.image,s.ver,true,im,k⟩ [P] [] wr∧wr.heap[P]? =some (.cells #[.int .i64 p.c,.int .i64 p.n,.int .i64 p.e,.int .i64 p.k,.int .i64 p.s,.int .i64 p.pl,.int .i64 p.m] 56 (0,0))) (fun i _=>N - (intOf i).toNat)
 case atStart=>exact ⟨0,by omega,rfl,HQ1.out,HP1.out⟩
 case round=>
  obtain ⟨k,hkD,rfl,hQr,hPr⟩:=hrel
  have HQr:=Hj hQr;have HPr:=Hj hPr
  have hPz:P<wr.heap.size:=(Al hPr)
  clear hQr hPr HQ1 HP1 hPz1
  obtain ⟨ivk,rvk,hst,hPn',hby,hnx,hno⟩:=HQr.out.take (fun z hz=>by rw[M1' hz];exact hPz)
  have hPn:P∉g::LogF h ivk rvk:=fun hm=>hPn' P (by simp) (List.mem_cons_of_mem _ hm)
  clear hno hPn'
  have HST:=Hj hst;have HNX:=Hj hnx
  clear hby hnx hst
  have hu:=HST.out.hu
  have u0:wr.cell? ⟨u,0,none⟩=some (.int .i64 x.task):=Bo hu rfl
  have u1:wr.cell? ⟨u,1,none⟩=some (.pointer (some ⟨g,0,none⟩)):=Bo hu rfl
  have u2:wr.cell? ⟨u,2,none⟩=some (_):=Bo hu rfl
  have u3:wr.cell? ⟨u,3,none⟩=some (.int .i64 x.num):=Bo hu rfl
  have u4:wr.cell? ⟨u,4,none⟩=some (.int .i64 x.att):=Bo hu rfl
  have u5:wr.cell? ⟨u,5,none⟩=some (.int .i64 x.i0):=Bo hu rfl
  have u6:wr.cell? ⟨u,6,none⟩=some (.int .i64 x.i1):=Bo hu rfl
  have u7:wr.cell? ⟨u,7,none⟩=some (.int .i64 x.gr):=Bo hu rfl
  have u8:wr.cell? ⟨u,8,none⟩=some (.bool x.down):=Bo hu rfl
  have u9:wr.cell? ⟨u,9,none⟩=some (.int .i64 x.lost):=Bo hu rfl
  clear hu
  have p_0:wr.cell? ⟨P,0,none⟩=some (.int .i64 p.c):=Bo HPr.out rfl
  have p_1:wr.cell? ⟨P,1,none⟩=some (.int .i64 p.n):=Bo HPr.out rfl
  have p_2:wr.cell? ⟨P,2,none⟩=some (.int .i64 p.e):=Bo HPr.out rfl
  have p_3:wr.cell? ⟨P,3,none⟩=some (.int .i64 p.k):=Bo HPr.out rfl
  have p_4:wr.cell? ⟨P,4,none⟩=some (.int .i64 p.s):=Bo HPr.out rfl
  have p_5:wr.cell? ⟨P,5,none⟩=some (.int .i64 p.pl):=Bo HPr.out rfl
  have p_6:wr.cell? ⟨P,6,none⟩=some (.int .i64 p.m):=Bo HPr.out rfl
  by_cases hkn:k<N
  ·have hlt:(k:Int)<N:=by omega
   have hc:=HC.out k hkD hkn
   by_cases hk8:p.k=8
   ·have H8:=Hj hk8
    have e8:(p.k==8)=true:=by simp[hk8]
    clear hk8
    go_wp2_with fail
    refine (uhits_any HST.out p).mono ?_
    rw[←HHit.out]
    rintro e wh ⟨rfl,hbh⟩
    have hzh:=hbh.size
    have HQh:=Hj (HQr.out.below hbh)
    have HPh:=Hj ((hbh.block P hPz).trans HPr.out)
    clear hbh e8 HST HNX hPn u0 u1 u2 u3 u4 u5 u6 u7 u8 u9 p_0 p_1 p_2 p_3 p_4 p_5 p_6
    have hPzh:P<wh.heap.size:=by omega
    clear hzh HQr HPr
    have p_0:wh.cell? ⟨P,0,none⟩=some (.int .i64 p.c):=Bo HPh.out rfl
    have p_1:wh.cell? ⟨P,1,none⟩=some (.int .i64 p.n):=Bo HPh.out rfl
    have p_2:wh.cell? ⟨P,2,none⟩=some (.int .i64 p.e):=Bo HPh.out rfl
    have p_3:wh.cell? ⟨P,3,none⟩=some (.int .i64 p.k):=Bo HPh.out rfl
    have p_4:wh.cell? ⟨P,4,none⟩=some (.int .i64 p.s):=Bo HPh.out rfl
    have p_5:wh.cell? ⟨P,5,none⟩=some (.int .i64 p.pl):=Bo HPh.out rfl
    have p_6:wh.cell? ⟨P,6,none⟩=some (.int .i64 p.m):=Bo HPh.out rfl
    obtain ⟨ivk,rvk,hst,hPn',hby,hnx,hno⟩:=HQh.out.take (fun z hz=>by rw[M1' hz];exact hPzh)
    have hPn:P∉g::LogF h ivk rvk:=fun hm=>hPn' P (by simp) (List.mem_cons_of_mem _ hm)
    clear hno hPn'
    have HST:=Hj hst;have HNX:=Hj hnx
    clear hby hnx hst
    have hu:=HST.out.hu
    have u0:wh.cell? ⟨u,0,none⟩=some (.int .i64 x.task):=Bo hu rfl
    have u1:wh.cell? ⟨u,1,none⟩=some (.pointer (some ⟨g,0,none⟩)):=Bo hu rfl
    have u2:wh.cell? ⟨u,2,none⟩=some (_):=Bo hu rfl
    have u3:wh.cell? ⟨u,3,none⟩=some (.int .i64 x.num):=Bo hu rfl
    have u4:wh.cell? ⟨u,4,none⟩=some (.int .i64 x.att):=Bo hu rfl
    have u5:wh.cell? ⟨u,5,none⟩=some (.int .i64 x.i0):=Bo hu rfl
    have u6:wh.cell? ⟨u,6,none⟩=some (.int .i64 x.i1):=Bo hu rfl
    have u7:wh.cell? ⟨u,7,none⟩=some (.int .i64 x.gr):=Bo hu rfl
    have u8:wh.cell? ⟨u,8,none⟩=some (.bool x.down):=Bo hu rfl
    have u9:wh.cell? ⟨u,9,none⟩=some (.int .i64 x.lost):=Bo hu rfl
    clear hu
    by_cases hh:hit=true
    ·subst hh
     by_cases hks:(k:Int)=p.s
     ·have hkD':k=D:=hc.1 ⟨H8.out,rfl,hks⟩
      have es:((k:Int)==p.s)=true:=by simp[hks]
      clear hks hc
      subst hkD'
      have eN:((k:Int)==N)=false:=by simp;omega
      go_wp2
      try rw[Exit.noGoto_ret]
      go_ret2
      exact ⟨by simp;omega,HQh.out⟩
     have hkD':k≠D:=fun e=>hks (hc.2 e).2.2
     have hk1:k+1≤D:=by omega
     have es:((k:Int)==p.s)=false:=by simp[hks]
     clear hc hks
     go_wp2_with fail
     refine (ststep_yes _ HST.out.hs rfl (by show k<tot s.image im;rw[←HNN.out];exact hkn)).mono ?_
     rintro e wq ⟨rfl,hQ⟩
     have hkq:Keep (g::LogF h ivk rvk) wh wq:=by obtain ⟨_,_,_,kk,_⟩:=hQ;exact kk
     have HPq:=Hj ((hkq.block P hPzh hPn).trans HPh.out)
     have HQq:=Hj (HNX.out _ _ hQ)
     clear hkq hQ
     go_wp2
     go_roundw
     case rel=>exact ⟨k+1,by omega,by go_num,HQq.out,HPq.out⟩
     case measure=>simp[intOf];omega
    have hh':hit=false:=by simpa using hh
    subst hh'
    have hkD':k≠D:=fun e=>hh (hc.2 e).2.1
    have hk1:k+1≤D:=by omega
    clear hc hh
    go_wp2_with fail
    refine (ststep_yes _ HST.out.hs rfl (by show k<tot s.image im;rw[←HNN.out];exact hkn)).mono ?_
    rintro e wq ⟨rfl,hQ⟩
    have hkq:Keep (g::LogF h ivk rvk) wh wq:=by obtain ⟨_,_,_,kk,_⟩:=hQ;exact kk
    have HPq:=Hj ((hkq.block P hPzh hPn).trans HPh.out)
    have HQq:=Hj (HNX.out _ _ hQ)
    clear hkq hQ
    go_wp2
    go_roundw
    case rel=>exact ⟨k+1,by omega,by go_num,HQq.out,HPq.out⟩
    case measure=>simp[intOf];omega
   have hkD':k≠D:=fun e=>hk8 (hc.2 e).1
   have hk1:k+1≤D:=by omega
   have e8:(p.k==8)=false:=by simp[hk8]
   clear hc hk8
   go_wp2_with fail
   refine (ststep_yes _ HST.out.hs rfl (by show k<tot s.image im;rw[←HNN.out];exact hkn)).mono ?_
   rintro e wq ⟨rfl,hQ⟩
   have hkq:Keep (g::LogF h ivk rvk) wr wq:=by obtain ⟨_,_,_,kk,_⟩:=hQ;exact kk
   have HPq:=Hj ((hkq.block P hPz hPn).trans HPr.out)
   have HQq:=Hj (HNX.out _ _ hQ)
   clear hkq hQ
   go_wp2
   go_roundw
   case rel=>exact ⟨k+1,by omega,by go_num,HQq.out,HPq.out⟩
   case measure=>simp[intOf];omega
  have hge:¬(k:Int)<N:=by omega
  have hkN:k=N:=by omega
  have hkN':D=N:=by omega
  subst hkN' hkN
  have eN:((k:Int)==k)=true:=by simp
  go_wp2
  try rw[Exit.noGoto_ret]
  go_ret2
  exact ⟨by simp,HQr.out⟩
end Go.Proofs.YtipiofgdjbogiaaGreat
