/- UnitScript: the unit beside the reference; clones -/
import Derived.Test.YtipiofgdjbogiaaGreatYi
import Derived.Test.YtipiofgdjbogiaaGreatQf
import Derived.Test.YtipiofgdjbogiaaGreatPm
set_option maxRecDepth 100000
set_option maxHeartbeats 8000000
namespace Go.Im
open Go Go.Txt Go.RowKit Go.Bs Go.Cl Go.Rw Go.Un Go.Fa
def Kept (P:List Nat→World→Prop):Prop:=∀(F F' G:List Nat) (w w':World),P F w→Keep G w w'→(∀f∈G,f∈F∨w.heap.size≤f)→(∀f∈F',f∈F∨w.heap.size≤f)→P F' w'
def ULG (w0:World) (u:Nat) (x:Us) (s:Ps) (P:List Nat→World→Prop) (L:List Nat) (w:World):Prop:=
 Below w0.heap.size w0 w∧∃base g h iv rv lv,w0.heap.size≤base∧base≤u∧UAt w base u g h iv rv lv x s∧P (L++UF u g h iv rv) w∧(∀z∈L,z<w.heap.size∧z∉UF u g h iv rv)∧Raw (L++UF u g h iv rv) 2 w lv x.led.length (x.led.flatMap Lg.encL)
variable {w0 w w':World} {u:Nat} {x:Us} {s:Ps} {P Q:List Nat→World→Prop} {L:List Nat}
theorem ULiv.lg (H:ULiv w0 u x s [] w):ULG w0 u x s (fun _ _=>True) [] w:=by
 obtain ⟨h1,base,g,h,iv,rv,lv,h2,h3,h4,h5⟩:=H
 exact ⟨h1,base,g,h,iv,rv,lv,h2,h3,h4,trivial,fun z hz=>(by cases hz),h4.hl⟩
theorem ULG.ull (H:ULG w0 u x s P L w):ULL w0 u x s [] L w:=by
 obtain ⟨h1,base,g,h,iv,rv,lv,h2,h3,h4,h5,h6,h7⟩:=H
 exact ⟨h1,base,g,h,iv,rv,lv,h2,h3,h4,fun p hp=>(by cases hp),h6,h7⟩
theorem ULG.step (H:ULG w0 u x s P L w) (hP:Kept P) (hb:Below w.heap.size w w') (h:∀F,(∀f∈F,f<w.heap.size)→P F w→P F w'→Q F w'):ULG w0 u x s Q L w':=by
 obtain ⟨h1,base,g,h',iv,rv,lv,h2,h3,h4,h5,h6,h7⟩:=H
 have hF:∀f∈L++UF u g h' iv rv,f<w.heap.size:=fun f hf=>by
  rcases List.mem_append.1 hf with hf | hf
  ·exact (h6 f hf).1
  exact h4.ufl f hf
 refine ⟨h1.trans (hb.mono h1.size),base,g,h',iv,rv,lv,h2,h3,h4.below hb,h _ hF h5 (hP _ _ [] _ _ h5 (Keep.of_below' hb) (fun f hf=>by cases hf) (fun f hf=> .inl hf)),fun z hz=>⟨by have:=(h6 z hz).1;have:=hb.size;omega,(h6 z hz).2⟩,Rb h7 hb⟩
theorem ULG.below (H:ULG w0 u x s P L w) (hP:Kept P) (hb:Below w.heap.size w w'):ULG w0 u x s P L w':=H.step hP hb (fun _ _ _ h=>h)
theorem ULG.more (H:ULG w0 u x s P L w) (hP:Kept P) (hb:Below w.heap.size w w') (M:List Nat) (hM:∀z∈M,w.heap.size≤z∧z<w'.heap.size):ULG w0 u x s P (M++L) w':=by
 obtain ⟨h1,base,g,h',iv,rv,lv,h2,h3,h4,h5,h6,h7⟩:=H
 have hsub:∀f∈(M++L)++UF u g h' iv rv,f∈L++UF u g h' iv rv∨w.heap.size≤f:=fun f hf=>by
  rw[List.append_assoc] at hf
  rcases List.mem_append.1 hf with hf | hf
  ·exact .inr (hM f hf).1
  exact .inl hf
 refine ⟨h1.trans (hb.mono h1.size),base,g,h',iv,rv,lv,h2,h3,h4.below hb,hP _ _ [] _ _ h5 (Keep.of_below' hb) (fun f hf=>by cases hf) hsub,fun z hz=> ?_,h7.keep (Keep.of_below' (F:=[]) hb) (fun f hf=>by cases hf) hsub⟩
 rcases List.mem_append.1 hz with hz | hz
 ·exact ⟨(hM z hz).2,fun hm=>by have:=h4.ufl z hm;have:=(hM z hz).1;omega⟩
 exact ⟨by have:=(h6 z hz).1;have:=hb.size;omega,(h6 z hz).2⟩
theorem ULG.moved {base g h:Nat} {iv rv lv lv':Value} {x':Us} {s':Ps} (hP:Kept P) (h1:Below w0.heap.size w0 w) (h2:w0.heap.size≤base) (h3:base≤u) (h4:UAt w base u g h iv rv lv x s) (h5:P (L++UF u g h iv rv) w) (h6:∀z∈L,z<w.heap.size∧z∉UF u g h iv rv) (Q':UQ w base u g h iv rv lv' x' s' L [] w'):ULG w0 u x' s' P L w'∧∀z∈L,w'.heap[z]? =w.heap[z]? :=by
 obtain ⟨iv',rv',HA,k,f,r,_⟩:=Q'
 have hub:=h4.ufb h3
 exact ⟨⟨h1.trans (k.below h1.size (fun f hf=>Nat.le_trans h2 (hub f hf))),base,g,h,iv',rv',lv',h2,h3,HA,hP _ _ _ _ _ h5 k (fun f hf=> .inl (List.mem_append_right _ hf)) (fun z hz=>by
  rcases List.mem_append.1 hz with hz | hz
  ·exact .inl (List.mem_append_left _ hz)
  rcases (f z hz).2 with hz | hz
  ·exact .inl (List.mem_append_right _ hz)
  exact .inr hz),fun z hz=>⟨by have:=(h6 z hz).1;have:=k.size;omega,fun hm=>(f z hm).1 hz⟩,r⟩,fun z hz=>k.block z (h6 z hz).1 (h6 z hz).2⟩
theorem Raw.move0 {F F':List Nat} {k:Nat} {v:Value} {xs:List Value} (h:Raw F k w v 0 xs):Raw F' k w' v 0 xs:=by
 obtain ⟨h1,h2,a,cap,rfl,h3,h4,h5⟩:=h
 exact ⟨h1,h2,a,cap,rfl,h3,h4,fun h0=>absurd h0 (Nat.lt_irrefl _)⟩
theorem StB.still {base g h:Nat} {iv rv imv nxv chv:Value} {rz:Bool} {rs:List (Rec×Value)} {G:List Nat} (H:StB w base g h iv rv imv nxv chv rz rs s) (hs:s.inst=false) (hk:Keep G w w') (hn:∀f∈g::LogF h iv rv,f∉G) (hi:Bytes (SF base g h iv rv) w' imv s.image):StB w' base g h iv rv imv nxv chv rz rs s:=by
 obtain ⟨hrs,hd,hne⟩:=H.nil_of hs
 have hhl:h∈LogF h iv rv:=by simp[LogF]
 have hx':Bytes (SF base g h iv rv) w' nxv s.next:=by
  have hx:=H.hx
  rw[hne] at hx⊢
  exact Raw.move0 hx
 have hch':ChR (SF base g h iv rv) w' chv s.chs:=by
  obtain ⟨cs,e,h1,h2⟩:=H.hch
  have hc0:s.chs=[]:=by simp[Ps.chs,hs]
  rw[hc0] at e⊢
  have:cs=[]:=by simpa using e
  subst this
  exact ⟨[],rfl,Raw.move0 h1,fun p hp=>by cases hp⟩
 have hl':LogAt w' base h iv rv s.work rs s.inst:=⟨H.hl.hg,(hk.block h H.hl.lt (hn h (List.mem_cons_of_mem _ hhl))).trans H.hl.hc,own_keep H.hl.hi hk (fun r hr=>hn r (List.mem_cons_of_mem _ (by simp[LogF,hr]))),H.hl.hr.keep hk (fun r hr=>hn r (List.mem_cons_of_mem _ (by simp[LogF,hr]))),fun p hp=>(by rw[hrs] at hp;cases hp)⟩
 exact ⟨H.good,H.hg,(hk.block g H.lt (hn g (by simp))).trans H.hc,hl',H.hn,hi,hx',hch',fun p hp=>(by rw[hrs] at hp;cases hp),H.ok,H.tk,H.rl,H.rzv⟩
def RuBox (w:World) (R:Nat):Prop:=∃x ver a1 n1 c1 a2 n2 c2 a3 n3 c3 a4 n4 c4 a5 n5 c5,w.heap[R]? =some (.cells (RUc x ver (.slice a1 n1 c1) (.slice a2 n2 c2) (.slice a3 n3 c3) (.slice a4 n4 c4) (.slice a5 n5 c5)) 36 (0,0))
theorem bytes_outR {F:List Nat} {v:Value} {l:List UInt8} {R:Nat} (h:Bytes F w v l) (hR:RuBox w R):Bytes (R::F) w v l:=by
 obtain ⟨h1,h2,a,cap,rfl,h3,h4,h5⟩:=h
 refine ⟨h1,h2,a,cap,rfl,h3,h4,fun h0=> ?_⟩
 obtain ⟨b,off,rfl,q1,q2,q3⟩:=h5 h0
 refine ⟨b,off,rfl,q1,fun hm=> ?_,q3⟩
 rcases List.mem_cons.1 hm with rfl | hm
 ·have hc:=q3 0 (byteV (l[0]'h0)) (by unfold bytesV;rw[List.getElem?_map,List.getElem?_eq_getElem h0];rfl)
  rw[Nat.add_zero] at hc
  obtain ⟨x,ver,a1,n1,c1,a2,n2,c2,a3,n3,c3,a4,n4,c4,a5,n5,c5,hb⟩:=hR
  simp only[World.cell?,hb,RUc] at hc
  match off,hc with
  | 0,hc=>simp[byteV] at hc
  | 1,hc=>simp[byteV] at hc
  | 2,hc=>simp[byteV] at hc
  | 3,hc=>simp[byteV] at hc
  | 4,hc=>simp[byteV] at hc
  | 5,hc=>simp[byteV] at hc
  | 6,hc=>simp[byteV] at hc
  | 7,hc=>simp[byteV] at hc
  | 8,hc=>simp[byteV] at hc
  | 9,hc=>simp[byteV] at hc
  | 10,hc=>simp[byteV] at hc
  | 11,hc=>simp[byteV] at hc
  | 12,hc=>simp[byteV] at hc
  | 13,hc=>simp[byteV] at hc
  | 14,hc=>simp[byteV] at hc
  | 15,hc=>simp[byteV] at hc
  | n+16,hc=>simp at hc
 exact q2 hm
theorem ULG.put (H:ULG w0 u x s P L w) (hP:Kept P) (hs:s.inst=false) {R:Nat} (hR:R∈L) (hw:w0.heap.size≤R) (hbx:RuBox w R) (hk:Keep [R] w w'):ULG w0 u x s P L w':=by
 obtain ⟨h1,base,g,h,iv,rv,lv,h2,h3,h4,h5,h6,h7⟩:=H
 have hRu:=(h6 R hR).2
 have hnG:∀f∈UF u g h iv rv,f∉[R]:=fun f hf hm=>by rw[List.mem_singleton] at hm;subst hm;exact hRu hf
 have r':Raw (L++UF u g h iv rv) 2 w' lv x.led.length (x.led.flatMap Lg.encL):=Raw.keep h7 hk (fun q hq=>by rw[M1' hq];exact .inl (List.mem_append_left _ hR)) (fun q hq=> .inl hq)
 refine ⟨h1.trans (hk.below h1.size (fun f hf=>by rw[M1' hf];exact hw)),base,g,h,iv,rv,lv,h2,h3,⟨?_, ?_,Raw.keep r' (Keep.refl [] w') (fun q hq=>by cases hq) (fun q hq=> .inl (List.mem_append_right _ hq))⟩,hP _ _ _ _ _ h5 hk (fun f hf=>by rw[M1' hf];exact .inl (List.mem_append_left _ hR)) (fun f hf=> .inl hf),fun q hq=>⟨by have:=(h6 q hq).1;have:=hk.size;omega,(h6 q hq).2⟩,r'⟩
 ·exact (hk.block u h4.lt (hnG u (by simp[UF]))).trans h4.hu
 obtain ⟨imv,nxv,chv,rz,rs,HB⟩:=h4.hs
 exact ⟨imv,nxv,chv,rz,rs,HB.still hs hk (fun f hf=>hnG f (List.mem_cons_of_mem _ hf)) (Raw.keep (bytes_outR HB.hi hbx) hk (fun f hf=> .inl (by rw[M1' hf];simp)) (fun f hf=> .inl (List.mem_cons_of_mem _ hf)))⟩
def UC (F:List Nat) (w:World) (c:Nat) (x:Us) (s:Ps):Prop:=
 s.inst=false∧∃base g h iv rv lv imv nxv chv rz rs,StB w base g h iv rv imv nxv chv rz rs s∧w.heap[c]? =some (.cells (UCells x g lv) 90 (0,0))∧(∀b∈UF c g h iv rv,b<w.heap.size∧b∉F)∧Bytes F w imv s.image∧Raw F 2 w lv x.led.length (x.led.flatMap Lg.encL)∧Raw (UF c g h iv rv) 2 w lv x.led.length (x.led.flatMap Lg.encL)
theorem UC.at {F:List Nat} {c:Nat} (H:UC F w c x s):∃base g h iv rv lv,UAt w base c g h iv rv lv x s:=by
 obtain ⟨_,base,g,h,iv,rv,lv,imv,nxv,chv,rz,rs,h1,h2,h3,h4,h5,h6⟩:=H
 exact ⟨base,g,h,iv,rv,lv,h2,⟨imv,nxv,chv,rz,rs,h1⟩,h6⟩
theorem UC.keep {F F' G:List Nat} {c:Nat} (H:UC F w c x s) (hk:Keep G w w') (hG:∀f∈G,f∈F∨w.heap.size≤f) (hF:∀f∈F',f∈F∨w.heap.size≤f):UC F' w' c x s:=by
 obtain ⟨hs,base,g,h,iv,rv,lv,imv,nxv,chv,rz,rs,h1,h2,h3,h4,h5,h6⟩:=H
 have hn:∀b∈UF c g h iv rv,b∉G:=fun b hb hm=>by
  rcases hG b hm with h | h
  ·exact (h3 b hb).2 h
  have:=(h3 b hb).1;omega
 refine ⟨hs,base,g,h,iv,rv,lv,imv,nxv,chv,rz,rs,h1.still hs hk (fun f hf=>hn f (List.mem_cons_of_mem _ hf)) ?_,(hk.block c (h3 c (by simp[UF])).1 (hn c (by simp[UF]))).trans h2,fun b hb=>⟨Nat.lt_of_lt_of_le (h3 b hb).1 hk.size,fun hm=> ?_⟩,Raw.keep h4 hk hG hF,Raw.keep h5 hk hG hF, ?_⟩
 ·exact Raw.keep (Raw.both h4 h1.hi) hk (fun f hf=>by rcases hG f hf with h | h;exact .inl (List.mem_append_left _ h);exact .inr h) (fun f hf=> .inl (List.mem_append_right _ hf))
 ·rcases hF b hm with h | h
  ·exact (h3 b hb).2 h
  have:=(h3 b hb).1;omega
 exact Raw.keep (Raw.both h5 h6) hk (fun f hf=>by rcases hG f hf with h | h;exact .inl (List.mem_append_left _ h);exact .inr h) (fun f hf=> .inl (List.mem_append_right _ hf))
theorem UC.kept (c:Nat):Kept (fun F w=>UC F w c x s):=fun _ _ _ _ _ h hk hG hF=>h.keep hk hG hF
theorem RUV.kept (v:Value) (img:List UInt8) (ver:Nat):Kept (fun F w=>RUV F w v x img ver):=fun _ _ _ _ _ h hk hG hF=>h.keep hk hG hF
theorem Bytes.kept (v:Value) (l:List UInt8):Kept (fun F w=>Bytes F w v l):=fun _ _ _ _ _ h hk hG hF=>Raw.keep h hk hG hF
theorem Kept.and (h1:Kept P) (h2:Kept Q):Kept (fun F w=>P F w∧Q F w):=fun F F' G w w' h hk hG hF=>⟨h1 F F' G w w' h.1 hk hG hF,h2 F F' G w w' h.2 hk hG hF⟩
end Go.Im
namespace Go.Proofs.YtipiofgdjbogiaaGreat
open Go.Txt Go.RowKit Go.Bs Go.Cl Go.Rw Go.Un Go.Im Go.Fa Go.Wi
variable {w0 w:World} {u:Nat} {x:Us} {s:Ps} {P:List Nat→World→Prop} {L:List Nat}
theorem ulg_finish (H:ULG w0 u x s P L w) (hP:Kept P) (p:FP) (a b:Oc) (i1 e1 i2 e2:Value) (ms md mk mq m0 m1 m2 m3:Int) (mv:Value) (pm:Bool) (hs:s.inst=false) (hv:s.ver<1000000) (hll:x.led.length≤1000) (hq1: -9223372036854775808≤mq) (hq2:mq≤9223372036854775807) (hn:0≤x.num∧x.num≤1000000) (ha:0≤x.att∧x.att≤1000000) (hal:a.im.length≤24000) (hB:∀F w,P F w→Bytes F w i1 a.im∧Bytes F w e1 a.ef∧Bytes F w i2 b.im∧Bytes F w e2 b.ef):
  Calls Tryz.prog 18 #[.pointer (some ⟨u,0,none⟩),.agg p.cs,.agg #[.int .i64 ms,.int .i64 md,.int .i64 mk,.int .i64 mq,.int .i64 m0,.int .i64 m1,.int .i64 m2,.int .i64 m3,mv],.agg #[.int .i64 a.en,.int .i64 a.st,.int .i64 a.er,i1,e1],.agg #[.int .i64 b.en,.int .i64 b.st,.int .i64 b.er,i2,e2],.bool pm] w fun e w'=>∃r:FR,r=finU x s p ms mq a b pm∧
   e= .returned (.tuple #[.agg #[.int .i64 r.c,.int .i64 r.st],.int .i64 r.e])∧ULG w0 u r.x r.s P L w'∧∀z∈L,w'.heap[z]? =w.heap[z]? :=by
 obtain ⟨h1,base,g,h,iv,rv,lv,h2,h3,h4,h5,h6,h7⟩:=H
 obtain ⟨b1,b2,b3,b4⟩:=hB _ _ h5
 have hsub:∀f∈UF u g h iv rv,f∈L++UF u g h iv rv∨w.heap.size≤f:=fun f hf=> .inl (List.mem_append_right _ hf)
 refine (finish_live h4 L h6 h7 p a b i1 e1 i2 e2 ms md mk mq m0 m1 m2 m3 mv pm hs hv hll hq1 hq2 hn ha hal (Raw.fresh b1 hsub) (Raw.fresh b2 hsub) (Raw.fresh b3 hsub) (Raw.fresh b4 hsub)).mono ?_
 rintro e w' ⟨r,lv',hr,rfl,Q⟩
 exact ⟨r,hr,rfl,ULG.moved hP h1 h2 h3 h4 h5 h6 Q⟩
theorem ulg_restart (H:ULG w0 u x s P L w) (hP:Kept P) (m:Int) (hg:0≤x.gr∧x.gr≤1000000):
  Calls Tryz.prog 13 #[.pointer (some ⟨u,0,none⟩),.int .i64 m] w fun e w'=>∃r,r=rstU x s m∧e= .returned (.tuple #[.int .i64 r.2.1,.int .i64 r.2.2])∧ULG w0 u r.1 s P L w'∧∀z∈L,w'.heap[z]? =w.heap[z]? :=by
 have hf:=H.ull.fit
 obtain ⟨h1,base,g,h,iv,rv,lv,h2,h3,h4,h5,h6,h7⟩:=H
 refine (restart_live h4 L h6 h7 m hg hf).mono ?_
 rintro e w' ⟨r,hr,lv',rfl,Q⟩
 exact ⟨r,hr,rfl,ULG.moved hP h1 h2 h3 h4 h5 h6 Q⟩
theorem uclone_any {base u g h:Nat} {iv rv lv:Value} {x:Us} {s:Ps} {w:World} (H:UAt w base u g h iv rv lv x s) (hs:s.inst=false) (hll:x.led.length≤1000):
  Calls Tryz.prog 8 #[.pointer (some ⟨u,0,none⟩)] w fun e w'=>∃c,e= .returned (.pointer (some ⟨c,0,none⟩))∧(∀F,(∀f∈F,f<w.heap.size)→UC F w' c x s)∧Below w.heap.size w w':=by
 obtain ⟨la,lc,rfl⟩:=Rs H.hl
 have hu:=H.hu
 simp only[UCells] at hu
 have hul:=H.lt
 obtain ⟨wa,hwa⟩:∃W,W=w.alloc (.cells #[.int .i64 x.task,.pointer (some ⟨g,0,none⟩),.slice la x.led.length lc,.int .i64 x.num,.int .i64 x.att,.int .i64 x.i0,.int .i64 x.i1,.int .i64 x.gr,.bool x.down,.int .i64 x.lost] 90):=⟨_,rfl⟩
 have hba:Below w.heap.size w wa:=by rw[hwa];exact (Br _ w).alloc (Nr _) _
 have hca:wa.heap[w.heap.size]? =some (.cells #[.int .i64 x.task,.pointer (some ⟨g,0,none⟩),.slice la x.led.length lc,.int .i64 x.num,.int .i64 x.att,.int .i64 x.i0,.int .i64 x.i1,.int .i64 x.gr,.bool x.down,.int .i64 x.lost] 90 (0,0)):=by rw[hwa];exact heap_alloc_new w _
 have HA1:=Hj (H.below hba)
 have HUa:=Hj ((hba.block u hul).trans hu)
 have HWa:=Hj hwa;have HBa:=Hj hba
 go_enter Tryz.func8,Tryz.ntmps8
 go_upto_region 4 with (first | refine wpList_load_row rfl 90 _ rfl u rfl 90 #[.int .i64 x.task,.pointer (some ⟨g,0,none⟩),.slice la x.led.length lc,.int .i64 x.num,.int .i64 x.att,.int .i64 x.i0,.int .i64 x.i1,.int .i64 x.gr,.bool x.down,.int .i64 x.lost] (0,0) _ hu Tryz.underlying90 rfl (by kernel_rfl) ?_ | refine wpList_store_row rfl 90 _ _ rfl w.heap.size #[.int .i64 x.task,.pointer (some ⟨g,0,none⟩),.slice la x.led.length lc,.int .i64 x.num,.int .i64 x.att,.int .i64 x.i0,.int .i64 x.i1,.int .i64 x.gr,.bool x.down,.int .i64 x.lost] rfl rfl 90 #[.int .i64 0,.pointer none,.slice none 0 0,.int .i64 0,.int .i64 0,.int .i64 0,.int .i64 0,.int .i64 0,.bool false,.int .i64 0] (heap_alloc_new w _) (by kernel_rfl) rfl (by kernel_rfl) ?_)
 rw[World.setRow_alloc_new,←HWa.out]
 have HC1:=Hj hca
 have hcl:w.heap.size<wa.heap.size:=(Al hca)
 clear hwa hca hu HWa hba
 have u_1:=Bj HUa.out 1 rfl
 go_wp2_with fail
 refine (clone_any wa HA1.out.hs).mono ?_
 rintro e w2 ⟨g2,rfl,hL2⟩
 obtain ⟨hb2,base2,h2,iv2,rv2,hba2,HS2⟩:=hL2
 have HB2:=Hj hb2
 have HA2:=Hj (HA1.out.below hb2)
 have hz2:=hb2.size
 clear u_1
 go_wp2_with fail
 refine (uledger_any HA2.out hll).mono ?_
 rintro e w3 ⟨lv3,rfl,ho3,hb3⟩
 have hz3:=hb3.size
 have HC3:=Hj ((hb3.block w.heap.size (by omega)).trans ((hb2.block w.heap.size hcl).trans HC1.out))
 have HS3:=Hj (HS2.below hb3)
 have HO3:=Hj ho3
 have HB3:=Hj (HB2.out.trans (hb3.mono hb2.size))
 obtain ⟨la3,lc3,rfl⟩:=Oq ho3
 have HS2lt:∀f∈g2::LogF h2 iv2 rv2,f<w2.heap.size:=by obtain ⟨_,_,_,_,_,HBx⟩:=HS2;exact fun f hf=>(HBx.fbase f hf).2
 clear ho3 hb2 hb3 HS2
 have c_1:=Bj HC3.out 1 rfl
 have c_2:=Bj HC3.out 2 rfl
 have f_1:=Bf HC3.out 1
 have f_2:=Bf HC3.out 2
 go_wp2
 go_ret
 obtain ⟨w4,hw4⟩:∃W,W=(w3.setCell ⟨w.heap.size,1,none⟩ (.pointer (some ⟨g2,0,none⟩))).setCell ⟨w.heap.size,2,none⟩ (.slice la3 x.led.length lc3):=⟨_,rfl⟩
 rw[←hw4]
 obtain ⟨hNb,hNk⟩:=puts_at [(1,.pointer (some ⟨g2,0,none⟩)),(2,.slice la3 x.led.length lc3)] HC3.out
 have hNe:puts w3 w.heap.size [(1,.pointer (some ⟨g2,0,none⟩)),(2,.slice la3 x.led.length lc3)]=w4:=hw4.symm
 rw[hNe] at hNb hNk
 have hNz:=hNk.size
 have hcb:w.heap.size<base2:=by omega
 have hwb:w.heap.size≤base2:=by omega
 obtain ⟨imv,nxv,chv,rz,rs,HB⟩:=HS3.out
 have hfb:=HB.fbase
 have hst:StB w4 base2 g2 h2 iv2 rv2 imv nxv chv rz rs s:=HB.still hs hNk (fun f hf hm=>by rw[List.mem_singleton] at hm;have:=(hfb f hf).1;omega) (Raw.keep HB.hi hNk (fun f hf=>by rw[M1' hf];exact .inl (List.mem_append_right _ (List.mem_range.2 hcb))) (fun f hf=> .inl hf))
 have ho4:=own_keep HO3.out hNk (Ow HO3.out (by omega))
 have hbase3:=HB.sbase
 refine ⟨w.heap.size,rfl,fun F hF=>⟨hs,base2,g2,h2,iv2,rv2,.slice la3 x.led.length lc3,imv,nxv,chv,rz,rs,hst,hNb,fun b hb=> ?_, ?_, ?_, ?_⟩, ?_⟩
 ·rcases List.mem_cons.1 hb with rfl | hb
  ·exact ⟨by omega,fun hm=>by have:=hF _ hm;omega⟩
  have:=hfb b hb
  exact ⟨by omega,fun hm=>by have:=hF _ hm;omega⟩
 ·exact Raw.fresh hst.hi (fun f hf=> .inl (List.mem_append_right _ (List.mem_range.2 (by have:=hF f hf;omega))))
 ·exact Raw.of_own ho4 (Lg.encL_one _) (fun f hf=>by have:=hF f hf;omega)
 ·exact Raw.of_own ho4 (Lg.encL_one _) (fun f hf=>by
   rcases List.mem_cons.1 hf with rfl | hf
   ·omega
   have:=(hst.fbase f hf).1
   have h4:=(HS2lt f hf)
   omega)
 exact below_keep (HBa.out.trans (HB3.out.mono HBa.out.size)) hNk (fun f hf=>by rw[M1' hf];exact Nr _)
end Go.Proofs.YtipiofgdjbogiaaGreat
