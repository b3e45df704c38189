/- UnitScript: the law's facts -/
import Derived.Test.YtipiofgdjbogiaaGreatYm
import Derived.Deep.MidRow
set_option maxRecDepth 100000
set_option maxHeartbeats 4000000
namespace Go.Im
open Go Go.Txt Go.RowKit Go.Bs Go.Cl Go.Rw Go.Un Go.Fa
structure RS where
 ia:Option Addr
 ic:Nat
 wa:Option Addr
 wc:Nat
 na:Option Addr
 nc:Nat
 ta:Option Addr
 tc:Nat
 la:Option Addr
 lc:Nat
def RUL (x:Us) (ver n:Nat) (t:RS):Array Value:=RUc x ver (.slice t.ia n t.ic) (.slice t.wa n t.wc) (.slice t.na 0 t.nc) (.slice t.ta 0 t.tc) (.slice t.la x.led.length t.lc)
variable {w0 w w':World} {F:List Nat} {u:Nat} {x:Us} {s:Ps} {P Q:List Nat→World→Prop} {L L':List Nat}
theorem RUV.open {v:Value} {img:List UInt8} {ver:Nat} (h:RUV F w v x img ver):∃t:RS,v= .agg (RUL x ver img.length t):=by
 obtain ⟨iv,wv,nv,tv,lv,rfl,h1,h2,h3,h4,h5⟩:=h
 obtain ⟨a1,c1,rfl⟩:=Rs h1
 obtain ⟨a2,c2,rfl⟩:=Rs h2
 obtain ⟨a3,c3,rfl⟩:=Rs h3
 obtain ⟨a4,c4,rfl⟩:=h4.slice
 obtain ⟨a5,c5,rfl⟩:=Rs h5
 exact ⟨⟨a1,c1,a2,c2,a3,c3,a4,c4,a5,c5⟩,rfl⟩
theorem RUL.box {R n ver:Nat} {t:RS} (h:w.heap[R]? =some (.cells (RUL x ver n t) 36 (0,0))):RuBox w R:=⟨_,_,_,_,_,_,_,_,_,_,_,_,_,_,_,_,_,h⟩
def PS (x:Us) (img:List UInt8) (ver:Nat) (t:RS) (c:Nat) (xk:Us) (imk:List UInt8) (vk:Nat) (tk:RS):List Nat→World→Prop:=fun F w=>
 RUV F w (.agg (RUL x ver img.length t)) x img ver∧(UC F w c xk ⟨imk,vk,false,[],0⟩∧RUV F w (.agg (RUL xk vk imk.length tk)) xk imk vk)
theorem PS.kept (x:Us) (img:List UInt8) (ver:Nat) (t:RS) (c:Nat) (xk:Us) (imk:List UInt8) (vk:Nat) (tk:RS):Kept (PS x img ver t c xk imk vk tk):=(RUV.kept _ _ _).and ((UC.kept _).and (RUV.kept _ _ _))
theorem ULG.open (H:ULG w0 u x s P L w):∃F,(∀f∈F,f<w.heap.size)∧P F w∧(∀z∈L,z∈F)∧∀(Q:List Nat→World→Prop) (w':World),Below w.heap.size w w'→Q F w'→ULG w0 u x s Q L w':=by
 obtain ⟨h1,base,g,h',iv,rv,lv,h2,h3,h4,h5,h6,h7⟩:=H
 refine ⟨L++UF u g h' iv rv,fun f hf=> ?_,h5,fun z hz=>List.mem_append_left _ hz,fun Q w' hb hQ=>⟨h1.trans (hb.mono h1.size),base,g,h',iv,rv,lv,h2,h3,h4.below hb,hQ,fun z hz=>⟨by have:=(h6 z hz).1;have:=hb.size;omega,(h6 z hz).2⟩,Rb h7 hb⟩⟩
 rcases List.mem_append.1 hf with hf | hf
 ·exact (h6 f hf).1
 exact h4.ufl f hf
theorem Kept.below (hP:Kept P) (hb:Below w.heap.size w w') (h:P F w):P F w':=hP F F [] w w' h (Keep.of_below' hb) (fun f hf=>by cases hf) (fun f hf=> .inl hf)
theorem ULG.less (H:ULG w0 u x s P L w) (hP:Kept P) (hL:∀z∈L',z∈L):ULG w0 u x s P L' w:=by
 obtain ⟨h1,base,g,h',iv,rv,lv,h2,h3,h4,h5,h6,h7⟩:=H
 have hs:∀f∈L'++UF u g h' iv rv,f∈L++UF u g h' iv rv∨w.heap.size≤f:=fun f hf=>by
  rcases List.mem_append.1 hf with hf | hf
  ·exact .inl (List.mem_append_left _ (hL f hf))
  exact .inl (List.mem_append_right _ hf)
 exact ⟨h1,base,g,h',iv,rv,lv,h2,h3,h4,hP _ _ [] _ _ h5 (Keep.refl [] w) (fun f hf=>by cases hf) hs,fun z hz=>h6 z (hL z hz),Raw.fresh h7 hs⟩
theorem ULG.imp (H:ULG w0 u x s P L w) (h:∀F w,P F w→Q F w):ULG w0 u x s Q L w:=by
 obtain ⟨h1,base,g,h',iv,rv,lv,h2,h3,h4,h5,h6,h7⟩:=H
 exact ⟨h1,base,g,h',iv,rv,lv,h2,h3,h4,h _ _ h5,h6,h7⟩
def TI (x:Us) (img:List UInt8) (ver k:Nat):Prop:=x.num=ver+1∧ver≤k∧img.length≤400∧x.led.length≤k∧0≤x.att∧x.att≤1+k∧0≤x.gr∧x.gr≤2+2*k
theorem see_len (l:List Lg.Lt) (t s:Int):(Lg.seeL l t s).1.length≤l.length+1:=by
 unfold Lg.seeL
 split
 ·rename_i h
  simp only[Bool.and_eq_true] at h
  split
  ·simp
  split
  ·simp
  exact Lg.put_len _ _ (Lg.valid_srt h.1)
 simp
theorem rst_ti {x:Us} {img:List UInt8} {ver k:Nat} {m:Int} (h:TI x img ver k):TI (rstU x ⟨img,ver,false,[],0⟩ m).1 img ver (k+1):=by
 obtain ⟨h1,h2,h3,h4,h5,h6,h7,h8⟩:=h
 unfold rstU
 split
 ·exact ⟨h1,by omega,h3,by show x.led.length≤k+1;omega,h5,by show x.att≤_;omega,h7,by show x.gr≤_;omega⟩
 split
 ·exact ⟨h1,by omega,h3,by show x.led.length≤k+1;omega,h5,by show x.att≤_;omega,by show 0≤x.gr+1;omega,by show x.gr+1≤_;omega⟩
 split
 ·exact ⟨h1,by omega,h3,by show x.led.length≤k+1;omega,h5,by show x.att≤_;omega,by show 0≤x.gr+2;omega,by show x.gr+2≤_;omega⟩
 exact ⟨h1,by omega,h3,by show x.led.length≤k+1;omega,h5,by show x.att≤_;omega,h7,by show x.gr≤_;omega⟩
theorem fin_ti {x:Us} {img:List UInt8} {ver k:Nat} {p:FP} {ms mq:Int} {a b:Oc} {pm:Bool} {r:FR} (hr:r=finU x ⟨img,ver,false,[],0⟩ p ms mq a b pm) (h:TI x img ver k) (ha:a.im.length≤400):
  ∃img' ver',r.s=⟨img',ver',false,[],0⟩∧TI r.x img' ver' (k+1):=by
 obtain ⟨h1,h2,h3,h4,h5,h6,h7,h8⟩:=h
 have hl:=see_len x.led ms mq
 subst hr
 unfold finU
 split
 ·exact ⟨img,ver,rfl,h1,by omega,h3,by show x.led.length≤k+1;omega,h5,by show x.att≤_;omega,h7,by show x.gr≤_;omega⟩
 split
 ·exact ⟨img,ver,rfl,h1,by omega,h3,by show x.led.length≤k+1;omega,h5,by show x.att≤_;omega,h7,by show x.gr≤_;omega⟩
 split
 ·exact ⟨img,ver,rfl,h1,by omega,h3,by show x.led.length≤k+1;omega,h5,by show x.att≤_;omega,h7,by show x.gr≤_;omega⟩
 split
 ·split
  ·refine ⟨a.im,ver+1,rfl, ?_,by omega,ha, ?_,by show (0:Int)≤1;omega,by show (1:Int)≤_;omega,h7,by show x.gr≤_;omega⟩
   ·show x.num+1=_;omega
   show (Lg.seeL x.led ms mq).1.length≤_;omega
  exact ⟨img,ver,rfl,h1,by omega,h3,by show x.led.length≤k+1;omega,by show 0≤x.att+1;omega,by show x.att+1≤_;omega,h7,by show x.gr≤_;omega⟩
 exact ⟨img,ver,rfl,h1,by omega,h3,by show x.led.length≤k+1;omega,by show 0≤x.att+1;omega,by show x.att+1≤_;omega,h7,by show x.gr≤_;omega⟩
theorem range_of {C o:Nat} {cs:Array Value} {t:TypeId} (h:w.heap[C]? =some (.cells cs t (0,0))) (l:List Value) (hl:(cs.toList.drop o).take l.length=l):w.rangeAt C o l:=fun j v hv=>by
 have hj:j<l.length:=(List.getElem?_eq_some_iff.1 hv).1
 rw[←hl,List.getElem?_take_of_lt hj,List.getElem?_drop,Array.getElem?_toList] at hv
 simp only[World.cell?,h]
 simpa using hv
def Kl.few (y:Kl):Prop:=y.a.im.length+y.a.ef.length≤400∧y.b.im.length+y.b.ef.length≤400∧y.d.length≤400
theorem Kl.cells {y:Kl} (h:y.ok w):∃da dc ai ac ae aec bi bc be bec,encK y=[.int .i64 y.op,.int .i64 y.mode,.int .i64 y.p.c,.int .i64 y.p.n,.int .i64 y.p.e,.int .i64 y.p.k,.int .i64 y.p.s,.int .i64 y.p.pl,.int .i64 y.p.m,.int .i64 y.ms,.int .i64 y.md,.int .i64 y.mt,.int .i64 y.mq,.int .i64 y.m0,.int .i64 y.m1,.int .i64 y.m2,.int .i64 y.m3,.slice da y.d.length dc,.int .i64 y.a.en,.int .i64 y.a.st,.int .i64 y.a.er,.slice ai y.a.im.length ac,.slice ae y.a.ef.length aec,.int .i64 y.b.en,.int .i64 y.b.st,.int .i64 y.b.er,.slice bi y.b.im.length bc,.slice be y.b.ef.length bec,.bool y.pm]∧
  Bytes [] w (.slice da y.d.length dc) y.d∧Bytes [] w (.slice ai y.a.im.length ac) y.a.im∧Bytes [] w (.slice ae y.a.ef.length aec) y.a.ef∧Bytes [] w (.slice bi y.b.im.length bc) y.b.im∧Bytes [] w (.slice be y.b.ef.length bec) y.b.ef:=by
 obtain ⟨q1,q2,q3,q4,q5,_⟩:=h
 obtain ⟨da,dc,h1⟩:=Rs q1
 obtain ⟨ai,ac,h2⟩:=Rs q2
 obtain ⟨ae,aec,h3⟩:=Rs q3
 obtain ⟨bi,bc,h4⟩:=Rs q4
 obtain ⟨be,bec,h5⟩:=Rs q5
 refine ⟨da,dc,ai,ac,ae,aec,bi,bc,be,bec,by unfold encK;rw[h1,h2,h3,h4,h5], ?_, ?_, ?_, ?_, ?_⟩
 ·rw[←h1];exact q1
 ·rw[←h2];exact q2
 ·rw[←h3];exact q3
 ·rw[←h4];exact q4
 rw[←h5];exact q5
end Go.Im
namespace Go.Proofs.YtipiofgdjbogiaaGreat
open Go.Txt Go.RowKit Go.Bs Go.Cl Go.Rw Go.Un Go.Im Go.Fa Go.Wi
theorem few_any (kv:Value) (ks:List Kl) (w:World) (hK:SlK w kv ks) (hk:∀y∈ks,y.ok w):
  Calls Tryz.prog 5 #[kv] w fun e w'=>∃b,e= .returned (.bool b)∧(b=true→ks.length≤30∧∀y∈ks,y.few)∧Below w.heap.size w w':=by
 obtain ⟨ka,kc,rfl⟩:=Rs hK
 have hkl:ks.length≤9223372036854775807:=by
  obtain ⟨_,_,a,cap,_,h3,h4,_⟩:=hK
  unfold maxLen at h4
  omega
 have HK:=Hj hK
 have HKO:=Hj hk
 clear hK hk
 go_enter Tryz.func5,Tryz.ntmps5
 go_wp2
 go_loopw [3] (fun i wr=>∃k:Nat,k≤ks.length∧i= .int .i64 k∧(∀j y,j<k→ks[j]? =some y→y.few)∧Below w.heap.size w wr) (fun i _=>ks.length - (intOf i).toNat)
 case atStart=>exact ⟨0,Nat.zero_le _,rfl,fun j y h=>absurd h (Nat.not_lt_zero _),Br _ _⟩
 case round=>
  rename World=>w1
  obtain ⟨k,hk,rfl,hfw,hbel⟩:=hrel
  have HFW:=Hj hfw
  have HB:=Hj hbel
  clear hfw
  by_cases hlt:k<ks.length
  rotate_left
  ·obtain rfl:k=ks.length:=by omega
   clear hbel
   go_wp2
   go_ret
   refine ⟨_,rfl,fun h=>⟨by have h2:=of_decide_eq_true h;omega,fun y hy=> ?_⟩,HB.out⟩
   obtain ⟨j,hj,he⟩:=List.getElem_of_mem hy
   exact HFW.out j y hj (by rw[List.getElem?_eq_getElem hj,he])
  obtain ⟨y,hy⟩:∃y,ks[k]? =some y:=⟨_,List.getElem?_eq_getElem hlt⟩
  have hok:=HKO.out y (List.mem_of_getElem? hy)
  obtain ⟨b,off,rfl,hb,hc⟩:=SlK.elem (show SlK w1 (.slice ka ks.length kc) ks from Rb HK.out hbel) hy
  obtain ⟨da,dc,ai,ac,ae,aec,bi,bc,be,bec,henc,hD,hA,hE,hA2,hE2⟩:=Kl.cells hok
  have hz1:=hok.2.2.2.2.2.2
  rw[henc] at hc
  have HY:=Hj hy
  obtain ⟨z1,z2,z3,z4,z5⟩:=hz1
  simp only[reachBytes] at z1 z2 z3 z4 z5
  have e_17:=hc 17 _ rfl
  have e_18:=hc 18 _ rfl
  have e_19:=hc 19 _ rfl
  have e_20:=hc 20 _ rfl
  have e_21:=hc 21 _ rfl
  have e_22:=hc 22 _ rfl
  have e_23:=hc 23 _ rfl
  have e_24:=hc 24 _ rfl
  have e_25:=hc 25 _ rfl
  have e_26:=hc 26 _ rfl
  have e_27:=hc 27 _ rfl
  simp only[←Nat.add_assoc,Nat.add_zero] at e_17 e_18 e_19 e_20 e_21 e_22 e_23 e_24 e_25 e_26 e_27
  clear hc henc hD hA hE hA2 hE2 hok hy hbel
  go_wp2_with fail
  refine (few1_any y.a _ _ _ (by omega) (by omega) ⟨_,_,rfl⟩ ⟨_,_,rfl⟩).mono ?_
  rintro e w2 ⟨rfl,hb2⟩
  have HB2:=Hj (HB.out.trans (hb2.mono HB.out.size))
  by_cases f1:y.a.im.length+y.a.ef.length≤400
  rotate_left
  ·rw[decide_eq_false f1]
   clear e_17 e_18 e_19 e_20 e_21 e_22 e_23 e_24 e_25 e_26 e_27 hb2
   go_wp2
   go_ret
   exact ⟨_,rfl,(fun h=>by cases h),HB2.out⟩
  rw[decide_eq_true f1]
  have e_17:=(hb2.cell (p:=_) hb).trans e_17
  have e_18:=(hb2.cell (p:=_) hb).trans e_18
  have e_19:=(hb2.cell (p:=_) hb).trans e_19
  have e_20:=(hb2.cell (p:=_) hb).trans e_20
  have e_21:=(hb2.cell (p:=_) hb).trans e_21
  have e_22:=(hb2.cell (p:=_) hb).trans e_22
  have e_23:=(hb2.cell (p:=_) hb).trans e_23
  have e_24:=(hb2.cell (p:=_) hb).trans e_24
  have e_25:=(hb2.cell (p:=_) hb).trans e_25
  have e_26:=(hb2.cell (p:=_) hb).trans e_26
  have e_27:=(hb2.cell (p:=_) hb).trans e_27
  have hb':b<w2.heap.size:=by have:=hb2.size;omega
  clear hb2
  go_wp2_with fail
  refine (few1_any y.b _ _ _ (by omega) (by omega) ⟨_,_,rfl⟩ ⟨_,_,rfl⟩).mono ?_
  rintro e w3 ⟨rfl,hb3⟩
  have HB3:=Hj (HB2.out.trans (hb3.mono HB2.out.size))
  by_cases f2:y.b.im.length+y.b.ef.length≤400
  rotate_left
  ·rw[decide_eq_false f2]
   clear e_17 e_18 e_19 e_20 e_21 e_22 e_23 e_24 e_25 e_26 e_27 hb3
   go_wp2
   go_ret
   exact ⟨_,rfl,(fun h=>by cases h),HB3.out⟩
  rw[decide_eq_true f2]
  have e_17:=(hb3.cell (p:=_) hb').trans e_17
  clear e_18 e_19 e_20 e_21 e_22 e_23 e_24 e_25 e_26 e_27 hb3
  by_cases f3:(400:Int)<y.d.length
  ·go_wp2
   go_ret
   exact ⟨_,rfl,(fun h=>by cases h),HB3.out⟩
  have HF:=Hj (show y.few from ⟨f1,f2,by omega⟩)
  go_wp2
  go_roundw
  case rel=>exact ⟨k+1,by omega,by go_num,fun j z hj hz=>by
   by_cases hjk:j<k
   ·exact HFW.out j z hjk hz
   obtain rfl:j=k:=by omega
   rw[HY.out] at hz
   cases hz
   exact HF.out,HB3.out⟩
  case measure=>simp[intOf];omega
end Go.Proofs.YtipiofgdjbogiaaGreat
