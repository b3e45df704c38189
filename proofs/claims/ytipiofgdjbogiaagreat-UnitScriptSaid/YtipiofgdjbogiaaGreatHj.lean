/- a unit that a law has made: what a law's walk calls -/
import Derived.Test.YtipiofgdjbogiaaGreatHh
namespace Go.Im
open Go Go.Txt Go.RowKit Go.Bs Go.Cl Go.Rw Go.Un Go.Fa
def ULL (w0:World) (u:Nat) (x:Us) (s:Ps) (rows:List (Value×List UInt8)) (L:List Nat) (w:World):Prop:=
 Below w0.heap.size w0 w∧∃base g h iv rv lv,w0.heap.size≤base∧base≤u∧UAt w base u g h iv rv lv x s∧(∀p∈rows,Bytes (UF u g h iv rv) w p.1 p.2)∧(∀z∈L,z<w.heap.size∧z∉UF u g h iv rv)∧Raw (L++UF u g h iv rv) 2 w lv x.led.length (x.led.flatMap Lg.encL)
variable {w0 w w':World} {u:Nat} {x:Us} {s:Ps} {rows:List (Value×List UInt8)} {L:List Nat}
theorem ULiv.ll (H:ULiv w0 u x s rows w):ULL w0 u x s rows [] w:=by
 obtain ⟨h1,base,g,h,iv,rv,lv,h2,h3,h4,h5⟩:=H
 exact ⟨h1,base,g,h,iv,rv,lv,h2,h3,h4,h5,fun z hz=>(by cases hz),h4.hl⟩
theorem ULL.liv (H:ULL w0 u x s rows L w):ULiv w0 u x s rows w:=by
 obtain ⟨h1,base,g,h,iv,rv,lv,h2,h3,h4,h5,_,_⟩:=H
 exact ⟨h1,base,g,h,iv,rv,lv,h2,h3,h4,h5⟩
theorem ULL.fit (H:ULL w0 u x s rows L w):s.image.length≤24000:=by
 obtain ⟨_,base,g,h,iv,rv,lv,_,_,h4,_,_,_⟩:=H
 obtain ⟨_,_,_,_,_,HB⟩:=h4.hs
 exact HB.good.il
theorem ULL.bytes (H:ULL w0 u x s rows L w) {v:Value} {l:List UInt8} (hp:(v,l)∈rows):Bytes [] w v l:=H.liv.bytes hp
theorem ULL.more (H:ULL w0 u x s rows L w) (hb:Below w.heap.size w w') (new:List (Value×List UInt8)) (hn:∀p∈new,∃e,w'.ownsRow w.heap.size e 1 p.1 p.2.length (bytesV p.2)) (M:List Nat) (hM:∀z∈M,w.heap.size≤z∧z<w'.heap.size):ULL w0 u x s (new++rows) (M++L) w':=by
 obtain ⟨h1,base,g,h,iv,rv,lv,h2,h3,h4,h5,h6,h7⟩:=H
 refine ⟨h1.trans (hb.mono h1.size),base,g,h,iv,rv,lv,h2,h3,h4.below hb,fun p hp=> ?_,fun z hz=> ?_,Rb (Raw.fresh h7 (fun z hz=> ?_)) hb⟩
 ·rcases List.mem_append.1 hp with hp | hp
  ·obtain ⟨e,ho⟩:=hn p hp
   exact Bytes.row ho rfl h4.ufl
  exact Rb (h5 p hp) hb
 ·rcases List.mem_append.1 hz with hz | hz
  ·exact ⟨(hM z hz).2,fun hm=>by have:=h4.ufl z hm;have:=(hM z hz).1;omega⟩
  exact ⟨by have:=(h6 z hz).1;have:=hb.size;omega,(h6 z hz).2⟩
 rw[List.append_assoc] at hz
 rcases List.mem_append.1 hz with hz | hz
 ·exact .inr (hM z hz).1
 exact .inl hz
theorem ULL.below (H:ULL w0 u x s rows L w) (hb:Below w.heap.size w w'):ULL w0 u x s rows L w':=H.more hb [] (fun p hp=>by cases hp) [] (fun z hz=>by cases hz)
theorem ULL.own (H:ULL w0 u x s rows L w) (hb:Below w.heap.size w w') (M:List Nat) (hM:∀z∈M,w.heap.size≤z∧z<w'.heap.size):ULL w0 u x s rows (M++L) w':=H.more hb [] (fun p hp=>by cases hp) M hM
theorem ULL.row (H:ULL w0 u x s rows L w) (hb:Below w.heap.size w w') {e:Nat} {v:Value} {l:List UInt8} (ho:w'.ownsRow w.heap.size e 1 v l.length (bytesV l)):ULL w0 u x s ((v,l)::rows) L w':=H.more hb [(v,l)] (fun p hp=>by rw[M1' hp];exact ⟨e,ho⟩) [] (fun z hz=>by cases hz)
theorem ULL.moved {base g h:Nat} {iv rv lv lv':Value} {x':Us} {s':Ps} (h1:Below w0.heap.size w0 w) (h2:w0.heap.size≤base) (h3:base≤u) (h4:UAt w base u g h iv rv lv x s) (h5:∀p∈rows,Bytes (UF u g h iv rv) w p.1 p.2) (h6:∀z∈L,z<w.heap.size∧z∉UF u g h iv rv) (Q:UQ w base u g h iv rv lv' x' s' L [] w'):ULL w0 u x' s' rows L w'∧∀z∈L,w'.heap[z]? =w.heap[z]? :=by
 obtain ⟨iv',rv',HA,k,f,r,_⟩:=Q
 have hub:=h4.ufb h3
 exact ⟨⟨h1.trans (k.below h1.size (fun f hf=>Nat.le_trans h2 (hub f hf))),base,g,h,iv',rv',lv',h2,h3,HA,fun p hp=>Raw.keep (h5 p hp) k (fun f hf=> .inl hf) (fun z hz=>(f z hz).2),fun z hz=>⟨by have:=(h6 z hz).1;have:=k.size;omega,fun hm=>(f z hm).1 hz⟩,r⟩,fun z hz=>k.block z (h6 z hz).1 (h6 z hz).2⟩
theorem ULL.putV (H:ULL w0 u x s rows L w) {z:Nat} (hz:z∈L) (hw:w0.heap.size≤z) (hV:VBox w z) (hk:Keep [z] w w'):ULL w0 u x s rows L w':=by
 obtain ⟨h1,base,g,h,iv,rv,lv,h2,h3,h4,h5,h6,h7⟩:=H
 have r':Raw (L++UF u g h iv rv) 2 w' lv x.led.length (x.led.flatMap Lg.encL):=Raw.keep h7 hk (fun q hq=>by rw[M1' hq];exact .inl (List.mem_append_left _ hz)) (fun q hq=> .inl hq)
 refine ⟨h1.trans (hk.below h1.size (fun f hf=>by rw[M1' hf];exact hw)),base,g,h,iv,rv,lv,h2,h3,⟨?_, ?_,Raw.keep r' (Keep.refl [] w') (fun q hq=>by cases hq) (fun q hq=> .inl (List.mem_append_right _ hq))⟩,fun p hp=>Raw.keep (bytes_outV (h5 p hp) hV) hk (fun f hf=> .inl (by rw[M1' hf];simp)) (fun f hf=> .inl (List.mem_cons_of_mem _ hf)),fun q hq=>⟨by have:=(h6 q hq).1;have:=hk.size;omega,(h6 q hq).2⟩,r'⟩
 ·exact (hk.block u h4.lt (fun hm=>by rw[List.mem_singleton] at hm;subst hm;exact (h6 u hz).2 (by simp[UF]))).trans h4.hu
 obtain ⟨imv,nxv,chv,rz,rs,HB⟩:=h4.hs
 exact ⟨imv,nxv,chv,rz,rs,HB.besideV hV hk⟩
end Go.Im
namespace Go.Proofs.YtipiofgdjbogiaaGreat
open Go.Txt Go.RowKit Go.Bs Go.Cl Go.Rw Go.Un Go.Im Go.Fa
variable {w0 w:World} {u:Nat} {x:Us} {s:Ps} {rows:List (Value×List UInt8)} {L:List Nat}
theorem ull_outcomes (H:ULL w0 u x s rows L w) (p:FP) (a b:Oc) (i1 e1 i2 e2:Value) (hal:a.im.length≤24000) (hael:a.ef.length≤24000) (hbl:b.im.length≤24000) (hbel:b.ef.length≤24000) (hI1:Bytes [] w i1 a.im) (hE1:Bytes [] w e1 a.ef) (hI2:Bytes [] w i2 b.im) (hE2:Bytes [] w e2 b.ef):
  Calls Tryz.prog 15 #[.pointer (some ⟨u,0,none⟩),.agg p.cs,.agg #[.int .i64 a.en,.int .i64 a.st,.int .i64 a.er,i1,e1],.agg #[.int .i64 b.en,.int .i64 b.st,.int .i64 b.er,i2,e2]] w fun e w'=>∃fa fb ia ea ib eb,fa=fout (if p.hits x.task x.num x.att then p else FP.none) 0 a∧fb=fout (if p.hits x.task x.num x.att then p else FP.none) 1 b∧
   e= .returned (.tuple #[.agg #[.int .i64 fa.en,.int .i64 fa.st,.int .i64 fa.er,ia,ea],.agg #[.int .i64 fb.en,.int .i64 fb.st,.int .i64 fb.er,ib,eb]])∧Below w.heap.size w w'∧ULL w0 u x s ((ia,fa.im)::(ea,fa.ef)::(ib,fb.im)::(eb,fb.ef)::rows) L w':=by
 have H':=H
 obtain ⟨_,base,g,h,iv,rv,lv,_,_,h4,_,_,_⟩:=H'
 refine (outcomes_any h4 p a b i1 e1 i2 e2 hal hael hbl hbel hI1 hE1 hI2 hE2).mono ?_
 rintro e w' ⟨fa,fb,ia,ea,ib,eb,hfa,hfb,rfl,o1,o2,o3,o4,hb⟩
 refine ⟨fa,fb,ia,ea,ib,eb,hfa,hfb,rfl,hb,H.more hb [(ia,fa.im),(ea,fa.ef),(ib,fb.im),(eb,fb.ef)] (fun p hp=> ?_) [] (fun z hz=>by cases hz)⟩
 simp only[List.mem_cons,List.not_mem_nil,or_false] at hp
 rcases hp with rfl | rfl | rfl | rfl
 ·exact ⟨_,o1⟩
 ·exact ⟨_,o2⟩
 ·exact ⟨_,o3⟩
 exact ⟨_,o4⟩
theorem ull_finish (H:ULL w0 u x s rows L w) (p:FP) (a b:Oc) (i1 e1 i2 e2:Value) (ms md mk mq m0 m1 m2 m3:Int) (mv:Value) (pm:Bool) (hs:s.inst=false) (hv:s.ver<1000000) (hll:x.led.length≤1000) (hq1: -9223372036854775808≤mq) (hq2:mq≤9223372036854775807) (hn:0≤x.num∧x.num≤1000000) (ha:0≤x.att∧x.att≤1000000) (hal:a.im.length≤24000) (hI1:(i1,a.im)∈rows) (hE1:(e1,a.ef)∈rows) (hI2:(i2,b.im)∈rows) (hE2:(e2,b.ef)∈rows):
  Calls Tryz.prog 18 #[.pointer (some ⟨u,0,none⟩),.agg p.cs,.agg #[.int .i64 ms,.int .i64 md,.int .i64 mk,.int .i64 mq,.int .i64 m0,.int .i64 m1,.int .i64 m2,.int .i64 m3,mv],.agg #[.int .i64 a.en,.int .i64 a.st,.int .i64 a.er,i1,e1],.agg #[.int .i64 b.en,.int .i64 b.st,.int .i64 b.er,i2,e2],.bool pm] w fun e w'=>∃r:FR,r=finU x s p ms mq a b pm∧
   e= .returned (.tuple #[.agg #[.int .i64 r.c,.int .i64 r.st],.int .i64 r.e])∧ULL w0 u r.x r.s rows L w'∧∀z∈L,w'.heap[z]? =w.heap[z]? :=by
 have H':=H
 obtain ⟨h1,base,g,h,iv,rv,lv,h2,h3,h4,h5,h6,h7⟩:=H'
 refine (finish_live h4 L h6 h7 p a b i1 e1 i2 e2 ms md mk mq m0 m1 m2 m3 mv pm hs hv hll hq1 hq2 hn ha hal (h5 _ hI1) (h5 _ hE1) (h5 _ hI2) (h5 _ hE2)).mono ?_
 rintro e w' ⟨r,lv',hr,rfl,Q⟩
 exact ⟨r,hr,rfl,ULL.moved h1 h2 h3 h4 h5 h6 Q⟩
theorem ull_restart (H:ULL w0 u x s rows L w) (m:Int) (hg:0≤x.gr∧x.gr≤1000000):
  Calls Tryz.prog 13 #[.pointer (some ⟨u,0,none⟩),.int .i64 m] w fun e w'=>∃r,r=rstU x s m∧e= .returned (.tuple #[.int .i64 r.2.1,.int .i64 r.2.2])∧ULL w0 u r.1 s rows L w'∧∀z∈L,w'.heap[z]? =w.heap[z]? :=by
 have hf:=H.fit
 have H':=H
 obtain ⟨h1,base,g,h,iv,rv,lv,h2,h3,h4,h5,h6,h7⟩:=H'
 refine (restart_live h4 L h6 h7 m hg hf).mono ?_
 rintro e w' ⟨r,hr,lv',rfl,Q⟩
 exact ⟨r,hr,rfl,ULL.moved h1 h2 h3 h4 h5 h6 Q⟩
theorem ull_number (H:ULL w0 u x s rows L w):Calls Tryz.prog 24 #[.pointer (some ⟨u,0,none⟩)] w fun e w'=>e= .returned (.int .i64 x.num)∧w=w':=by
 obtain ⟨_,_,_,_,_,_,_,_,_,h4,_,_,_⟩:=H
 exact unumber_any h4
theorem ull_version (H:ULL w0 u x s rows L w):Calls Tryz.prog 23 #[.pointer (some ⟨u,0,none⟩)] w fun e w'=>e= .returned (.int .i64 s.ver)∧w=w':=by
 obtain ⟨_,_,_,_,_,_,_,_,_,h4,_,_,_⟩:=H
 exact uversion_any h4
theorem ull_image (H:ULL w0 u x s rows L w):Calls Tryz.prog 28 #[.pointer (some ⟨u,0,none⟩)] w fun e w'=>∃a c,e= .returned (.slice a s.image.length c)∧Below w.heap.size w w'∧ULL w0 u x s ((.slice a s.image.length c,s.image)::rows) L w':=by
 have H':=H
 obtain ⟨_,_,_,_,_,_,_,_,_,h4,_,_,_⟩:=H'
 refine (uimage_any h4).mono ?_
 rintro e w' ⟨v,rfl,ho,hb⟩
 obtain ⟨a,c,rfl⟩:=Oq ho
 exact ⟨a,c,rfl,hb,H.row hb ho⟩
theorem ull_inst (H:ULL w0 u x s rows L w):Calls Tryz.prog 27 #[.pointer (some ⟨u,0,none⟩)] w fun e w'=>e= .returned (.agg #[.int .i64 x.i0,.int .i64 x.i1])∧Below w.heap.size w w'∧ULL w0 u x s rows L w':=by
 have H':=H
 obtain ⟨_,_,_,_,_,_,_,_,_,h4,_,_,_⟩:=H'
 refine (uinst_any h4).mono ?_
 rintro e w' ⟨rfl,hb⟩
 exact ⟨rfl,hb,H.below hb⟩
end Go.Proofs.YtipiofgdjbogiaaGreat
