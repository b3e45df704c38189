/- unit: New, the getters -/
import Derived.Test.YtipiofgdjbogiaaGreatHa
set_option maxRecDepth 100000
set_option maxHeartbeats 1000000
namespace Go.Im
open Go Go.Txt Go.RowKit Go.Bs Go.Cl Go.Rw Go.Un
def UF (u g h:Nat) (iv rv:Value):List Nat:=u::g::LogF h iv rv
structure UAt (w:World) (base u g h:Nat) (iv rv lv:Value) (x:Us) (s:Ps):Prop where
 hu:w.heap[u]? =some (.cells (UCells x g lv) 90 (0,0))
 hs:StAt w base g h iv rv s
 hl:Raw (UF u g h iv rv) 2 w lv x.led.length (x.led.flatMap Lg.encL)
variable {w w':World} {base u g h:Nat} {iv rv lv:Value} {x:Us} {s:Ps}
theorem UAt.box (H:UAt w base u g h iv rv lv x s):UBox w u:=by
 obtain ⟨a,c,e⟩:=Rs H.hl
 exact ⟨x,g,lv,⟨_,_,_,e⟩,H.hu⟩
theorem UAt.lt (H:UAt w base u g h iv rv lv x s):u<w.heap.size:=(Al H.hu)
theorem UAt.ufl (H:UAt w base u g h iv rv lv x s):∀f∈UF u g h iv rv,f<w.heap.size:=fun f hf=>by
 obtain ⟨_,_,_,_,_,H'⟩:=H.hs
 rcases List.mem_cons.1 hf with rfl | hf
 ·exact H.lt
 exact (H'.fbase f hf).2
theorem UAt.ufb (H:UAt w base u g h iv rv lv x s) (hb:base≤u):∀f∈UF u g h iv rv,base≤f:=fun f hf=>by
 obtain ⟨_,_,_,_,_,H'⟩:=H.hs
 rcases List.mem_cons.1 hf with rfl | hf
 ·exact hb
 exact (H'.fbase f hf).1
theorem UAt.below (H:UAt w base u g h iv rv lv x s) (hb:Below w.heap.size w w'):UAt w' base u g h iv rv lv x s:=⟨(hb.block u H.lt).trans H.hu,H.hs.below hb,Rb H.hl hb⟩
theorem UAt.store (H:UAt w base u g h iv rv lv x s) {s':Ps} (Q:StQ w base g h iv rv s' w'):∃iv' rv',UAt w' base u g h iv' rv' lv x s'∧Keep (UF u g h iv rv) w w'∧∀f∈UF u g h iv' rv',f∈UF u g h iv rv∨w.heap.size≤f:=by
 obtain ⟨iv',rv',h1,h2,h3⟩:=Q
 have hk:Keep (UF u g h iv rv) w w':=h2.mono (fun f hf=> .inl (List.mem_cons_of_mem _ hf))
 have hf:∀f∈UF u g h iv' rv',f∈UF u g h iv rv∨w.heap.size≤f:=fun f hf=>by
  simp only[UF,List.mem_cons] at hf⊢
  rcases hf with rfl | rfl | hf
  ·exact .inl (.inl rfl)
  ·exact .inl (.inr (.inl rfl))
  rcases h3 f hf with h | h
  ·exact .inl (.inr (.inr h))
  exact .inr h
 refine ⟨iv',rv',⟨?_,h1,Raw.keep H.hl hk (fun f hf=> .inl hf) hf⟩,hk,hf⟩
 obtain ⟨_,_,_,_,_,H'⟩:=H.hs
 exact (h2.block u H.lt (H'.apartR H.box)).trans H.hu
theorem UAt.set (H:UAt w base u g h iv rv lv x s) {x':Us} {lv':Value} (hk:Keep [u] w w') (hu:w'.heap[u]? =some (.cells (UCells x' g lv') 90 (0,0))) (hl:Raw (UF u g h iv rv) 2 w lv' x'.led.length (x'.led.flatMap Lg.encL)):UAt w' base u g h iv rv lv' x' s:=by
 obtain ⟨imv,nxv,chv,rz,rs,H'⟩:=H.hs
 exact ⟨hu,⟨imv,nxv,chv,rz,rs,H'.beside H.box hk⟩,Raw.keep hl hk (fun f hf=> .inl (by rw[M1' hf];simp[UF])) (fun f hf=> .inl hf)⟩
def ULiv (w0:World) (u:Nat) (x:Us) (s:Ps) (rows:List (Value×List UInt8)) (w:World):Prop:=
 Below w0.heap.size w0 w∧∃base g h iv rv lv,w0.heap.size≤base∧base≤u∧UAt w base u g h iv rv lv x s∧∀p∈rows,Bytes (UF u g h iv rv) w p.1 p.2
variable {w0:World} {rows:List (Value×List UInt8)}
theorem ULiv.bytes (H:ULiv w0 u x s rows w) {v:Value} {l:List UInt8} (hp:(v,l)∈rows):Bytes [] w v l:=by
 obtain ⟨_,base,g,h,iv,rv,lv,_,_,_,h5⟩:=H
 exact Raw.to_nil (h5 _ hp)
end Go.Im
namespace Go.Proofs.YtipiofgdjbogiaaGreat
open Go.Txt Go.RowKit Go.Bs Go.Cl Go.Rw Go.Un Go.Im Go.Fa
theorem unew_ok (t:Int) (bv:Value) (b:List UInt8) (w0 w:World) (h1:1≤t) (h2:t≤10) (hb:b.length≤24000) (h0:Below w0.heap.size w0 w) (hB:Bytes [] w bv b):
  Calls Tryz.prog 6 #[.int .i64 t,bv] w fun e w'=>∃u,e= .returned (.tuple #[.pointer (some ⟨u,0,none⟩),.int .i64 0])∧ULiv w0 u ⟨t,[],1,1,1,2,2,false,0⟩ ⟨b,0,false,[],0⟩ [] w':=by
 obtain ⟨ba,bc,rfl⟩:=Rs hB
 have HB:=Hj hB;clear hB
 go_enter Tryz.func6,Tryz.ntmps6
 go_wp2_with fail
 refine (stnew_any _ b _ hb HB.out).mono ?_
 rintro e w1 ⟨g,h,iv,rfl,hs,hb1⟩
 have HS:=Hj hs;have HB1:=Hj hb1
 clear hs hb1
 go_wp2
 go_ret2
 have hz:=HB1.out.size
 refine ⟨_,rfl,h0.trans ((HB1.out.alloc hz _).mono h0.size),w.heap.size,g,h,iv,_,_,h0.size,hz,⟨heap_alloc_new w1 _,HS.out.below ((Br _ w1).alloc (Nr _) _),Raw.empty _ _ _⟩,fun p hp=>by cases hp⟩
theorem utask_any {base u g h:Nat} {iv rv lv:Value} {x:Us} {s:Ps} {w:World} (H:UAt w base u g h iv rv lv x s):Calls Tryz.prog 56 #[.pointer (some ⟨u,0,none⟩)] w fun e w'=>e= .returned (.int .i64 x.task)∧w=w':=by
 have hu:=H.hu
 have u0:w.cell? ⟨u,0,none⟩=some (.int .i64 x.task):=Bo hu rfl
 have u1:w.cell? ⟨u,1,none⟩=some (.pointer (some ⟨g,0,none⟩)):=Bo hu rfl
 have u2:w.cell? ⟨u,2,none⟩=some (_):=Bo hu rfl
 have u3:w.cell? ⟨u,3,none⟩=some (.int .i64 x.num):=Bo hu rfl
 have u4:w.cell? ⟨u,4,none⟩=some (.int .i64 x.att):=Bo hu rfl
 have u5:w.cell? ⟨u,5,none⟩=some (.int .i64 x.i0):=Bo hu rfl
 have u6:w.cell? ⟨u,6,none⟩=some (.int .i64 x.i1):=Bo hu rfl
 have u7:w.cell? ⟨u,7,none⟩=some (.int .i64 x.gr):=Bo hu rfl
 have u8:w.cell? ⟨u,8,none⟩=some (.bool x.down):=Bo hu rfl
 have u9:w.cell? ⟨u,9,none⟩=some (.int .i64 x.lost):=Bo hu rfl
 clear hu H
 have h1:Calls Tryz.prog 115 #[.pointer (some ⟨u,0,none⟩)] w fun e w'=>e= .returned (.int .i64 x.task)∧w=w':=by
  go_enter Tryz.func115,Tryz.ntmps115
  go_wp2
  go_ret
  exact ⟨rfl,rfl⟩
 have h2:Calls Tryz.prog 62 #[.pointer (some ⟨u,0,none⟩),.func (.func 115) #[] #[]] w fun e w'=>e= .returned (.int .i64 x.task)∧w=w':=by
  clear u0 u1 u2 u3 u4 u5 u6 u7 u8 u9
  go_enter Tryz.func62,Tryz.ntmps62
  go_wp2_with fail
  refine h1.mono ?_
  rintro e w1 ⟨rfl,rfl⟩
  go_wp2
  go_ret
  exact ⟨rfl,rfl⟩
 clear h1 u0 u1 u2 u3 u4 u5 u6 u7 u8 u9
 go_enter Tryz.func56,Tryz.ntmps56
 go_wp2_with fail
 refine h2.mono ?_
 rintro e w1 ⟨rfl,rfl⟩
 go_wp2
 go_ret
 exact ⟨rfl,rfl⟩
theorem unumber_any {base u g h:Nat} {iv rv lv:Value} {x:Us} {s:Ps} {w:World} (H:UAt w base u g h iv rv lv x s):Calls Tryz.prog 24 #[.pointer (some ⟨u,0,none⟩)] w fun e w'=>e= .returned (.int .i64 x.num)∧w=w':=by
 have hu:=H.hu
 have u0:w.cell? ⟨u,0,none⟩=some (.int .i64 x.task):=Bo hu rfl
 have u1:w.cell? ⟨u,1,none⟩=some (.pointer (some ⟨g,0,none⟩)):=Bo hu rfl
 have u2:w.cell? ⟨u,2,none⟩=some (_):=Bo hu rfl
 have u3:w.cell? ⟨u,3,none⟩=some (.int .i64 x.num):=Bo hu rfl
 have u4:w.cell? ⟨u,4,none⟩=some (.int .i64 x.att):=Bo hu rfl
 have u5:w.cell? ⟨u,5,none⟩=some (.int .i64 x.i0):=Bo hu rfl
 have u6:w.cell? ⟨u,6,none⟩=some (.int .i64 x.i1):=Bo hu rfl
 have u7:w.cell? ⟨u,7,none⟩=some (.int .i64 x.gr):=Bo hu rfl
 have u8:w.cell? ⟨u,8,none⟩=some (.bool x.down):=Bo hu rfl
 have u9:w.cell? ⟨u,9,none⟩=some (.int .i64 x.lost):=Bo hu rfl
 clear hu H
 have h1:Calls Tryz.prog 65 #[.pointer (some ⟨u,0,none⟩)] w fun e w'=>e= .returned (.int .i64 x.num)∧w=w':=by
  go_enter Tryz.func65,Tryz.ntmps65
  go_wp2
  go_ret
  exact ⟨rfl,rfl⟩
 have h2:Calls Tryz.prog 62 #[.pointer (some ⟨u,0,none⟩),.func (.func 65) #[] #[]] w fun e w'=>e= .returned (.int .i64 x.num)∧w=w':=by
  clear u0 u1 u2 u3 u4 u5 u6 u7 u8 u9
  go_enter Tryz.func62,Tryz.ntmps62
  go_wp2_with fail
  refine h1.mono ?_
  rintro e w1 ⟨rfl,rfl⟩
  go_wp2
  go_ret
  exact ⟨rfl,rfl⟩
 clear h1 u0 u1 u2 u3 u4 u5 u6 u7 u8 u9
 go_enter Tryz.func24,Tryz.ntmps24
 go_wp2_with fail
 refine h2.mono ?_
 rintro e w1 ⟨rfl,rfl⟩
 go_wp2
 go_ret
 exact ⟨rfl,rfl⟩
theorem uattempt_any {base u g h:Nat} {iv rv lv:Value} {x:Us} {s:Ps} {w:World} (H:UAt w base u g h iv rv lv x s):Calls Tryz.prog 57 #[.pointer (some ⟨u,0,none⟩)] w fun e w'=>e= .returned (.int .i64 x.att)∧w=w':=by
 have hu:=H.hu
 have u0:w.cell? ⟨u,0,none⟩=some (.int .i64 x.task):=Bo hu rfl
 have u1:w.cell? ⟨u,1,none⟩=some (.pointer (some ⟨g,0,none⟩)):=Bo hu rfl
 have u2:w.cell? ⟨u,2,none⟩=some (_):=Bo hu rfl
 have u3:w.cell? ⟨u,3,none⟩=some (.int .i64 x.num):=Bo hu rfl
 have u4:w.cell? ⟨u,4,none⟩=some (.int .i64 x.att):=Bo hu rfl
 have u5:w.cell? ⟨u,5,none⟩=some (.int .i64 x.i0):=Bo hu rfl
 have u6:w.cell? ⟨u,6,none⟩=some (.int .i64 x.i1):=Bo hu rfl
 have u7:w.cell? ⟨u,7,none⟩=some (.int .i64 x.gr):=Bo hu rfl
 have u8:w.cell? ⟨u,8,none⟩=some (.bool x.down):=Bo hu rfl
 have u9:w.cell? ⟨u,9,none⟩=some (.int .i64 x.lost):=Bo hu rfl
 clear hu H
 have h1:Calls Tryz.prog 116 #[.pointer (some ⟨u,0,none⟩)] w fun e w'=>e= .returned (.int .i64 x.att)∧w=w':=by
  go_enter Tryz.func116,Tryz.ntmps116
  go_wp2
  go_ret
  exact ⟨rfl,rfl⟩
 have h2:Calls Tryz.prog 62 #[.pointer (some ⟨u,0,none⟩),.func (.func 116) #[] #[]] w fun e w'=>e= .returned (.int .i64 x.att)∧w=w':=by
  clear u0 u1 u2 u3 u4 u5 u6 u7 u8 u9
  go_enter Tryz.func62,Tryz.ntmps62
  go_wp2_with fail
  refine h1.mono ?_
  rintro e w1 ⟨rfl,rfl⟩
  go_wp2
  go_ret
  exact ⟨rfl,rfl⟩
 clear h1 u0 u1 u2 u3 u4 u5 u6 u7 u8 u9
 go_enter Tryz.func57,Tryz.ntmps57
 go_wp2_with fail
 refine h2.mono ?_
 rintro e w1 ⟨rfl,rfl⟩
 go_wp2
 go_ret
 exact ⟨rfl,rfl⟩
theorem ulost_any {base u g h:Nat} {iv rv lv:Value} {x:Us} {s:Ps} {w:World} (H:UAt w base u g h iv rv lv x s):Calls Tryz.prog 61 #[.pointer (some ⟨u,0,none⟩)] w fun e w'=>e= .returned (.int .i64 x.lost)∧w=w':=by
 have hu:=H.hu
 have u0:w.cell? ⟨u,0,none⟩=some (.int .i64 x.task):=Bo hu rfl
 have u1:w.cell? ⟨u,1,none⟩=some (.pointer (some ⟨g,0,none⟩)):=Bo hu rfl
 have u2:w.cell? ⟨u,2,none⟩=some (_):=Bo hu rfl
 have u3:w.cell? ⟨u,3,none⟩=some (.int .i64 x.num):=Bo hu rfl
 have u4:w.cell? ⟨u,4,none⟩=some (.int .i64 x.att):=Bo hu rfl
 have u5:w.cell? ⟨u,5,none⟩=some (.int .i64 x.i0):=Bo hu rfl
 have u6:w.cell? ⟨u,6,none⟩=some (.int .i64 x.i1):=Bo hu rfl
 have u7:w.cell? ⟨u,7,none⟩=some (.int .i64 x.gr):=Bo hu rfl
 have u8:w.cell? ⟨u,8,none⟩=some (.bool x.down):=Bo hu rfl
 have u9:w.cell? ⟨u,9,none⟩=some (.int .i64 x.lost):=Bo hu rfl
 clear hu H
 have h1:Calls Tryz.prog 119 #[.pointer (some ⟨u,0,none⟩)] w fun e w'=>e= .returned (.int .i64 x.lost)∧w=w':=by
  go_enter Tryz.func119,Tryz.ntmps119
  go_wp2
  go_ret
  exact ⟨rfl,rfl⟩
 have h2:Calls Tryz.prog 62 #[.pointer (some ⟨u,0,none⟩),.func (.func 119) #[] #[]] w fun e w'=>e= .returned (.int .i64 x.lost)∧w=w':=by
  clear u0 u1 u2 u3 u4 u5 u6 u7 u8 u9
  go_enter Tryz.func62,Tryz.ntmps62
  go_wp2_with fail
  refine h1.mono ?_
  rintro e w1 ⟨rfl,rfl⟩
  go_wp2
  go_ret
  exact ⟨rfl,rfl⟩
 clear h1 u0 u1 u2 u3 u4 u5 u6 u7 u8 u9
 go_enter Tryz.func61,Tryz.ntmps61
 go_wp2_with fail
 refine h2.mono ?_
 rintro e w1 ⟨rfl,rfl⟩
 go_wp2
 go_ret
 exact ⟨rfl,rfl⟩
theorem udown_any {base u g h:Nat} {iv rv lv:Value} {x:Us} {s:Ps} {w:World} (H:UAt w base u g h iv rv lv x s):Calls Tryz.prog 60 #[.pointer (some ⟨u,0,none⟩)] w fun e w'=>e= .returned (.bool x.down)∧w=w':=by
 have hu:=H.hu
 have u0:w.cell? ⟨u,0,none⟩=some (.int .i64 x.task):=Bo hu rfl
 have u1:w.cell? ⟨u,1,none⟩=some (.pointer (some ⟨g,0,none⟩)):=Bo hu rfl
 have u2:w.cell? ⟨u,2,none⟩=some (_):=Bo hu rfl
 have u3:w.cell? ⟨u,3,none⟩=some (.int .i64 x.num):=Bo hu rfl
 have u4:w.cell? ⟨u,4,none⟩=some (.int .i64 x.att):=Bo hu rfl
 have u5:w.cell? ⟨u,5,none⟩=some (.int .i64 x.i0):=Bo hu rfl
 have u6:w.cell? ⟨u,6,none⟩=some (.int .i64 x.i1):=Bo hu rfl
 have u7:w.cell? ⟨u,7,none⟩=some (.int .i64 x.gr):=Bo hu rfl
 have u8:w.cell? ⟨u,8,none⟩=some (.bool x.down):=Bo hu rfl
 have u9:w.cell? ⟨u,9,none⟩=some (.int .i64 x.lost):=Bo hu rfl
 clear hu H
 have h1:Calls Tryz.prog 118 #[.pointer (some ⟨u,0,none⟩)] w fun e w'=>e= .returned (.bool x.down)∧w=w':=by
  go_enter Tryz.func118,Tryz.ntmps118
  go_wp2
  go_ret
  exact ⟨rfl,rfl⟩
 have h2:Calls Tryz.prog 117 #[.pointer (some ⟨u,0,none⟩),.func (.func 118) #[] #[]] w fun e w'=>e= .returned (.bool x.down)∧w=w':=by
  clear u0 u1 u2 u3 u4 u5 u6 u7 u8 u9
  go_enter Tryz.func117,Tryz.ntmps117
  go_wp2_with fail
  refine h1.mono ?_
  rintro e w1 ⟨rfl,rfl⟩
  go_wp2
  go_ret
  exact ⟨rfl,rfl⟩
 clear h1 u0 u1 u2 u3 u4 u5 u6 u7 u8 u9
 go_enter Tryz.func60,Tryz.ntmps60
 go_wp2_with fail
 refine h2.mono ?_
 rintro e w1 ⟨rfl,rfl⟩
 go_wp2
 go_ret
 exact ⟨rfl,rfl⟩
theorem uversion_any {base u g h:Nat} {iv rv lv:Value} {x:Us} {s:Ps} {w:World} (H:UAt w base u g h iv rv lv x s):Calls Tryz.prog 23 #[.pointer (some ⟨u,0,none⟩)] w fun e w'=>e= .returned (.int .i64 s.ver)∧w=w':=by
 have hu:=H.hu
 have HS:=Hj H.hs
 have u0:w.cell? ⟨u,0,none⟩=some (.int .i64 x.task):=Bo hu rfl
 have u1:w.cell? ⟨u,1,none⟩=some (.pointer (some ⟨g,0,none⟩)):=Bo hu rfl
 have u2:w.cell? ⟨u,2,none⟩=some (_):=Bo hu rfl
 have u3:w.cell? ⟨u,3,none⟩=some (.int .i64 x.num):=Bo hu rfl
 have u4:w.cell? ⟨u,4,none⟩=some (.int .i64 x.att):=Bo hu rfl
 have u5:w.cell? ⟨u,5,none⟩=some (.int .i64 x.i0):=Bo hu rfl
 have u6:w.cell? ⟨u,6,none⟩=some (.int .i64 x.i1):=Bo hu rfl
 have u7:w.cell? ⟨u,7,none⟩=some (.int .i64 x.gr):=Bo hu rfl
 have u8:w.cell? ⟨u,8,none⟩=some (.bool x.down):=Bo hu rfl
 have u9:w.cell? ⟨u,9,none⟩=some (.int .i64 x.lost):=Bo hu rfl
 clear hu H
 have h1:Calls Tryz.prog 63 #[.pointer (some ⟨u,0,none⟩)] w fun e w'=>e= .returned (.int .i64 s.ver)∧w=w':=by
  go_enter Tryz.func63,Tryz.ntmps63
  go_wp2_with fail
  refine (ver_any _ HS.out).mono ?_
  rintro e w1 ⟨rfl,rfl⟩
  go_wp2
  go_ret
  exact ⟨rfl,rfl⟩
 clear u0 u1 u2 u3 u4 u5 u6 u7 u8 u9
 have h2:Calls Tryz.prog 62 #[.pointer (some ⟨u,0,none⟩),.func (.func 63) #[] #[]] w fun e w'=>e= .returned (.int .i64 s.ver)∧w=w':=by
  go_enter Tryz.func62,Tryz.ntmps62
  go_wp2_with fail
  refine h1.mono ?_
  rintro e w1 ⟨rfl,rfl⟩
  go_wp2
  go_ret
  exact ⟨rfl,rfl⟩
 clear h1
 go_enter Tryz.func23,Tryz.ntmps23
 go_wp2_with fail
 refine h2.mono ?_
 rintro e w1 ⟨rfl,rfl⟩
 go_wp2
 go_ret
 exact ⟨rfl,rfl⟩
theorem uimage_any {base u g h:Nat} {iv rv lv:Value} {x:Us} {s:Ps} {w:World} (H:UAt w base u g h iv rv lv x s):Calls Tryz.prog 28 #[.pointer (some ⟨u,0,none⟩)] w fun e w'=>∃v,e= .returned v∧w'.ownsRow w.heap.size 5 1 v s.image.length (bytesV s.image)∧Below w.heap.size w w':=by
 have hu:=H.hu
 have HS:=Hj H.hs
 have HL:=Hj H.hl
 obtain ⟨la,lc,rfl⟩:=Rs H.hl
 have u0:w.cell? ⟨u,0,none⟩=some (.int .i64 x.task):=Bo hu rfl
 have u1:w.cell? ⟨u,1,none⟩=some (.pointer (some ⟨g,0,none⟩)):=Bo hu rfl
 have u2:w.cell? ⟨u,2,none⟩=some (_):=Bo hu rfl
 have u3:w.cell? ⟨u,3,none⟩=some (.int .i64 x.num):=Bo hu rfl
 have u4:w.cell? ⟨u,4,none⟩=some (.int .i64 x.att):=Bo hu rfl
 have u5:w.cell? ⟨u,5,none⟩=some (.int .i64 x.i0):=Bo hu rfl
 have u6:w.cell? ⟨u,6,none⟩=some (.int .i64 x.i1):=Bo hu rfl
 have u7:w.cell? ⟨u,7,none⟩=some (.int .i64 x.gr):=Bo hu rfl
 have u8:w.cell? ⟨u,8,none⟩=some (.bool x.down):=Bo hu rfl
 have u9:w.cell? ⟨u,9,none⟩=some (.int .i64 x.lost):=Bo hu rfl
 clear hu H
 have h1:Calls Tryz.prog 71 #[.pointer (some ⟨u,0,none⟩)] w fun e w'=>∃v,e= .returned v∧w'.ownsRow w.heap.size 5 1 v s.image.length (bytesV s.image)∧Below w.heap.size w w':=by
  go_enter Tryz.func71,Tryz.ntmps71
  go_wp2_with fail
  refine (img_any _ HS.out).mono ?_
  rintro e w1 ⟨v,rfl,ho,hb⟩
  have HO:=Hj ho;have HBB:=Hj hb
  clear ho hb
  go_wp2
  go_ret
  exact ⟨v,rfl,HO.out,HBB.out⟩
 clear u0 u1 u2 u3 u4 u5 u6 u7 u8 u9
 have h2:Calls Tryz.prog 70 #[.pointer (some ⟨u,0,none⟩),.func (.func 71) #[] #[]] w fun e w'=>∃v,e= .returned v∧w'.ownsRow w.heap.size 5 1 v s.image.length (bytesV s.image)∧Below w.heap.size w w':=by
  go_enter Tryz.func70,Tryz.ntmps70
  go_wp2_with fail
  refine h1.mono ?_
  rintro e w1 ⟨v,rfl,ho,hb⟩
  have HO:=Hj ho;have HBB:=Hj hb
  clear ho hb
  go_wp2
  go_ret
  exact ⟨v,rfl,HO.out,HBB.out⟩
 clear h1
 go_enter Tryz.func28,Tryz.ntmps28
 go_wp2_with fail
 refine h2.mono ?_
 rintro e w1 ⟨v,rfl,ho,hb⟩
 have HO:=Hj ho;have HBB:=Hj hb
 clear ho hb
 go_wp2
 go_ret
 exact ⟨v,rfl,HO.out,HBB.out⟩
theorem uledger_any {base u g h:Nat} {iv rv lv:Value} {x:Us} {s:Ps} {w:World} (H:UAt w base u g h iv rv lv x s) (hll:x.led.length≤1000):Calls Tryz.prog 33 #[.pointer (some ⟨u,0,none⟩)] w fun e w'=>∃v,e= .returned v∧w'.ownsRow w.heap.size 145 2 v x.led.length (x.led.flatMap Lg.encL)∧Below w.heap.size w w':=by
 have hu:=H.hu
 have HS:=Hj H.hs
 have HL:=Hj H.hl
 obtain ⟨la,lc,rfl⟩:=Rs H.hl
 have u0:w.cell? ⟨u,0,none⟩=some (.int .i64 x.task):=Bo hu rfl
 have u1:w.cell? ⟨u,1,none⟩=some (.pointer (some ⟨g,0,none⟩)):=Bo hu rfl
 have u2:w.cell? ⟨u,2,none⟩=some (_):=Bo hu rfl
 have u3:w.cell? ⟨u,3,none⟩=some (.int .i64 x.num):=Bo hu rfl
 have u4:w.cell? ⟨u,4,none⟩=some (.int .i64 x.att):=Bo hu rfl
 have u5:w.cell? ⟨u,5,none⟩=some (.int .i64 x.i0):=Bo hu rfl
 have u6:w.cell? ⟨u,6,none⟩=some (.int .i64 x.i1):=Bo hu rfl
 have u7:w.cell? ⟨u,7,none⟩=some (.int .i64 x.gr):=Bo hu rfl
 have u8:w.cell? ⟨u,8,none⟩=some (.bool x.down):=Bo hu rfl
 have u9:w.cell? ⟨u,9,none⟩=some (.int .i64 x.lost):=Bo hu rfl
 clear hu H
 have h1:Calls Tryz.prog 78 #[.pointer (some ⟨u,0,none⟩)] w fun e w'=>∃v,e= .returned v∧w'.ownsRow w.heap.size 145 2 v x.led.length (x.led.flatMap Lg.encL)∧Below w.heap.size w w':=by
  go_enter Tryz.func78,Tryz.ntmps78
  go_wp2_with (at_builtin;refine wpList_app Ldg.el25 Tryz.underlying88 (World.ownsRow_nil w w.heap.size 145 2) HL.out (Br w.heap.size w) rfl _ _ rfl rfl rfl ?c3 (Nr _) (Nr _) ?_)
  case c3=>omega
  intro v1 w1 hown hb1 hg1 hs1
  obtain ⟨a1,c1,rfl⟩:=Oq hown
  have HO:Hid (w1.ownsRow w.heap.size 145 2 (.slice a1 x.led.length c1) x.led.length (x.led.flatMap Lg.encL)):=Hj (by simpa using hown)
  have HBB:=Hj hb1
  clear hown hb1 hg1
  go_wp2
  go_ret
  exact ⟨_,rfl,HO.out,HBB.out⟩
 clear u0 u1 u2 u3 u4 u5 u6 u7 u8 u9
 have h2:Calls Tryz.prog 77 #[.pointer (some ⟨u,0,none⟩),.func (.func 78) #[] #[]] w fun e w'=>∃v,e= .returned v∧w'.ownsRow w.heap.size 145 2 v x.led.length (x.led.flatMap Lg.encL)∧Below w.heap.size w w':=by
  go_enter Tryz.func77,Tryz.ntmps77
  go_wp2_with fail
  refine h1.mono ?_
  rintro e w1 ⟨v,rfl,ho,hb⟩
  have HO:=Hj ho;have HBB:=Hj hb
  clear ho hb
  go_wp2
  go_ret
  exact ⟨v,rfl,HO.out,HBB.out⟩
 clear h1
 go_enter Tryz.func33,Tryz.ntmps33
 go_wp2_with fail
 refine h2.mono ?_
 rintro e w1 ⟨v,rfl,ho,hb⟩
 have HO:=Hj ho;have HBB:=Hj hb
 clear ho hb
 go_wp2
 go_ret
 exact ⟨v,rfl,HO.out,HBB.out⟩
theorem uinst1_any {base u g h:Nat} {iv rv lv:Value} {x:Us} {s:Ps} {w:World} (H:UAt w base u g h iv rv lv x s):Calls Tryz.prog 69 #[.pointer (some ⟨u,0,none⟩)] w fun e w'=>e= .returned (.agg #[.int .i64 x.i0,.int .i64 x.i1])∧Below w.heap.size w w':=by
 obtain ⟨R,hR⟩:∃R,R=w.heap.size:=⟨_,rfl⟩
 obtain ⟨W,hW⟩:∃W,W=w.alloc (.cells #[.int .i64 0,.int .i64 0] 34):=⟨_,rfl⟩
 have HW:=Hj hW
 have hb:Below w.heap.size w W:=by rw[hW];exact (Br _ w).alloc (Nr _) _
 have HBW:=Hj hb
 have HU:=Hj (H.below hb)
 have HR:Hid (W.heap[R]? =some (.cells #[.int .i64 0,.int .i64 0] 34 (0,0))):=Hj (by rw[hW,hR];exact heap_alloc_new w _)
 have hwR:w.heap.size≤R:=by omega
 have hRW:R<W.heap.size:=(Al HR.out)
 clear hW hb H
 go_enter Tryz.func69,Tryz.ntmps69
 go_upto_region 1 with (fail)
 rw[←HW.out,←hR]
 clear hR HW
 have hu:=HU.out.hu
 have u0:W.cell? ⟨u,0,none⟩=some (.int .i64 x.task):=Bo hu rfl
 have u1:W.cell? ⟨u,1,none⟩=some (.pointer (some ⟨g,0,none⟩)):=Bo hu rfl
 have u2:W.cell? ⟨u,2,none⟩=some (_):=Bo hu rfl
 have u3:W.cell? ⟨u,3,none⟩=some (.int .i64 x.num):=Bo hu rfl
 have u4:W.cell? ⟨u,4,none⟩=some (.int .i64 x.att):=Bo hu rfl
 have u5:W.cell? ⟨u,5,none⟩=some (.int .i64 x.i0):=Bo hu rfl
 have u6:W.cell? ⟨u,6,none⟩=some (.int .i64 x.i1):=Bo hu rfl
 have u7:W.cell? ⟨u,7,none⟩=some (.int .i64 x.gr):=Bo hu rfl
 have u8:W.cell? ⟨u,8,none⟩=some (.bool x.down):=Bo hu rfl
 have u9:W.cell? ⟨u,9,none⟩=some (.int .i64 x.lost):=Bo hu rfl
 clear hu
 have hb1:=Br W.heap.size W
 have HR1:=Hj ((hb1.block R hRW).trans HR.out)
 have HB1:=Hj (HBW.out.trans (hb1.mono HBW.out.size))
 have r0:=Bj HR1.out 0 rfl
 have r1:=Bj HR1.out 1 rfl
 have q0:=Bf HR1.out 0
 have q1:=Bf HR1.out 1
 clear hb1
 go_wp2
 obtain ⟨hX,hK⟩:=puts_at [(0,.int .i64 x.i0),(1,.int .i64 x.i1)] HR1.out
 refine bodyPost_ret (results_c rfl _ _ _ _ _ _ _ rfl hX Tryz.underlying34 rfl (by kernel_rfl)) rfl ?_
 exact ⟨rfl,HB1.out.trans (hK.below HB1.out.size (G1 (by omega)))⟩
theorem uinst2_any {base u g h:Nat} {iv rv lv:Value} {x:Us} {s:Ps} {w:World} (H:UAt w base u g h iv rv lv x s):Calls Tryz.prog 68 #[.pointer (some ⟨u,0,none⟩),.func (.func 69) #[] #[]] w fun e w'=>e= .returned (.agg #[.int .i64 x.i0,.int .i64 x.i1])∧Below w.heap.size w w':=by
 obtain ⟨R,hR⟩:∃R,R=w.heap.size:=⟨_,rfl⟩
 obtain ⟨W,hW⟩:∃W,W=w.alloc (.cells #[.int .i64 0,.int .i64 0] 34):=⟨_,rfl⟩
 have HW:=Hj hW
 have hb:Below w.heap.size w W:=by rw[hW];exact (Br _ w).alloc (Nr _) _
 have HBW:=Hj hb
 have HU:=Hj (H.below hb)
 have HR:Hid (W.heap[R]? =some (.cells #[.int .i64 0,.int .i64 0] 34 (0,0))):=Hj (by rw[hW,hR];exact heap_alloc_new w _)
 have hwR:w.heap.size≤R:=by omega
 have hRW:R<W.heap.size:=(Al HR.out)
 clear hW hb H
 go_enter Tryz.func68,Tryz.ntmps68
 go_upto_region 1 with (fail)
 rw[←HW.out,←hR]
 clear hR HW
 go_wp2_with fail
 refine (uinst1_any HU.out).mono ?_
 rintro e w1 ⟨rfl,hb1⟩
 have HR1:=Hj ((hb1.block R hRW).trans HR.out)
 have HB1:=Hj (HBW.out.trans (hb1.mono HBW.out.size))
 have r0:=Bj HR1.out 0 rfl
 have r1:=Bj HR1.out 1 rfl
 have q0:=Bf HR1.out 0
 have q1:=Bf HR1.out 1
 clear hb1
 go_wp2
 obtain ⟨hX,hK⟩:=puts_at [(0,.int .i64 x.i0),(1,.int .i64 x.i1)] HR1.out
 refine bodyPost_ret (results_c rfl _ _ _ _ _ _ _ rfl hX Tryz.underlying34 rfl (by kernel_rfl)) rfl ?_
 exact ⟨rfl,HB1.out.trans (hK.below HB1.out.size (G1 (by omega)))⟩
theorem uinst_any {base u g h:Nat} {iv rv lv:Value} {x:Us} {s:Ps} {w:World} (H:UAt w base u g h iv rv lv x s):Calls Tryz.prog 27 #[.pointer (some ⟨u,0,none⟩)] w fun e w'=>e= .returned (.agg #[.int .i64 x.i0,.int .i64 x.i1])∧Below w.heap.size w w':=by
 obtain ⟨R,hR⟩:∃R,R=w.heap.size:=⟨_,rfl⟩
 obtain ⟨W,hW⟩:∃W,W=w.alloc (.cells #[.int .i64 0,.int .i64 0] 34):=⟨_,rfl⟩
 have HW:=Hj hW
 have hb:Below w.heap.size w W:=by rw[hW];exact (Br _ w).alloc (Nr _) _
 have HBW:=Hj hb
 have HU:=Hj (H.below hb)
 have HR:Hid (W.heap[R]? =some (.cells #[.int .i64 0,.int .i64 0] 34 (0,0))):=Hj (by rw[hW,hR];exact heap_alloc_new w _)
 have hwR:w.heap.size≤R:=by omega
 have hRW:R<W.heap.size:=(Al HR.out)
 clear hW hb H
 go_enter Tryz.func27,Tryz.ntmps27
 go_upto_region 1 with (fail)
 rw[←HW.out,←hR]
 clear hR HW
 go_wp2_with fail
 refine (uinst2_any HU.out).mono ?_
 rintro e w1 ⟨rfl,hb1⟩
 have HR1:=Hj ((hb1.block R hRW).trans HR.out)
 have HB1:=Hj (HBW.out.trans (hb1.mono HBW.out.size))
 have r0:=Bj HR1.out 0 rfl
 have r1:=Bj HR1.out 1 rfl
 have q0:=Bf HR1.out 0
 have q1:=Bf HR1.out 1
 clear hb1
 go_wp2
 obtain ⟨hX,hK⟩:=puts_at [(0,.int .i64 x.i0),(1,.int .i64 x.i1)] HR1.out
 refine bodyPost_ret (results_c rfl _ _ _ _ _ _ _ rfl hX Tryz.underlying34 rfl (by kernel_rfl)) rfl ?_
 exact ⟨rfl,HB1.out.trans (hK.below HB1.out.size (G1 (by omega)))⟩
end Go.Proofs.YtipiofgdjbogiaaGreat
