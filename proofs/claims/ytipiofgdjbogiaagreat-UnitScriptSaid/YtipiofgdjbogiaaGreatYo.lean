/- UnitScript: the law's walk -/
import Derived.Test.YtipiofgdjbogiaaGreatYn
import Derived.Deep.CutRange
set_option maxRecDepth 100000
set_option maxHeartbeats 16000000
namespace Go.Im
open Go Go.Txt Go.RowKit Go.Bs Go.Cl Go.Rw Go.Un Go.Fa
theorem Kl.ok.below {y:Kl} {w w':World} (h:y.ok w) (hb:Below w.heap.size w w'):y.ok w':=⟨Rb h.1 hb,Rb h.2.1 hb,Rb h.2.2.1 hb,Rb h.2.2.2.1 hb,Rb h.2.2.2.2.1 hb,h.2.2.2.2.2⟩
end Go.Im
namespace Go.Proofs.YtipiofgdjbogiaaGreat
open Go.Txt Go.RowKit Go.Bs Go.Cl Go.Rw Go.Un Go.Im Go.Fa Go.Wi
def B5 (v1 v2 v3 v4 v5:Value) (l1 l2 l3 l4 l5:List UInt8) (F:List Nat) (w:World):Prop:=Bytes F w v1 l1∧(Bytes F w v2 l2∧(Bytes F w v3 l3∧(Bytes F w v4 l4∧Bytes F w v5 l5)))
theorem B5.kept (v1 v2 v3 v4 v5:Value) (l1 l2 l3 l4 l5:List UInt8):Kept (B5 v1 v2 v3 v4 v5 l1 l2 l3 l4 l5):=(Bytes.kept _ _).and ((Bytes.kept _ _).and ((Bytes.kept _ _).and ((Bytes.kept _ _).and (Bytes.kept _ _))))
theorem ulg_rows {w0 w:World} {u:Nat} {x:Us} {s:Ps} {P:List Nat→World→Prop} {L:List Nat} {v1 v2 v3 v4 v5:Value} {l1 l2 l3 l4 l5:List UInt8} (H:ULG w0 u x s P L w) (hL:∀z∈L,w0.heap.size≤z) (a1:Bytes [] w0 v1 l1) (a2:Bytes [] w0 v2 l2) (a3:Bytes [] w0 v3 l3) (a4:Bytes [] w0 v4 l4) (a5:Bytes [] w0 v5 l5):ULG w0 u x s (fun F w=>P F w∧B5 v1 v2 v3 v4 v5 l1 l2 l3 l4 l5 F w) L w:=by
 obtain ⟨h1,base,g,h,iv,rv,lv,h2,h3,h4,h5,h6,h7⟩:=H
 have hx:∀{v:Value} {l:List UInt8},Bytes [] w0 v l→Bytes (L++UF u g h iv rv) w v l:=fun hB=>Raw.keep (F':=_) hB (Keep.of_below' (F:=[]) h1) (fun f hf=>by cases hf) (fun f hf=>by
  rcases List.mem_append.1 hf with hf | hf
  ·exact .inr (hL f hf)
  exact .inr (Nat.le_trans h2 (h4.ufb h3 f hf)))
 exact ⟨h1,base,g,h,iv,rv,lv,h2,h3,h4,⟨h5,hx a1,hx a2,hx a3,hx a4,hx a5⟩,h6,h7⟩
theorem RUV.nil {F:List Nat} {w:World} {v:Value} {x:Us} {img:List UInt8} {ver:Nat} (h:RUV F w v x img ver):RUV [] w v x img ver:=h.keep (Keep.refl [] w) (fun f hf=>by cases hf) (fun f hf=>by cases hf)
theorem ULG.at {w0 w:World} {u:Nat} {x:Us} {s:Ps} {P:List Nat→World→Prop} {L:List Nat} (H:ULG w0 u x s P L w):∃base g h iv rv lv,UAt w base u g h iv rv lv x s:=by
 obtain ⟨h1,base,g,h,iv,rv,lv,h2,h3,h4,_⟩:=H
 exact ⟨base,g,h,iv,rv,lv,h4⟩
theorem two_rows (w:World) (Z1 Z2 V1 V2:Array Value) (T T2:TypeId):∀wn,wn=((((w.alloc (.cells Z1 T)).alloc (.cells Z2 T2)).setRow w.heap.size V1).setRow (w.heap.size+1) V2)→
  wn.heap[w.heap.size]? =some (.cells V1 T (0,0))∧wn.heap[w.heap.size+1]? =some (.cells V2 T2 (0,0))∧Below w.heap.size w wn∧w.heap.size+1<wn.heap.size:=by
 rintro wn rfl
 have h0:=a2_0 w (.cells Z1 T) (.cells Z2 T2)
 have h1:=a2_1 w (.cells Z1 T) (.cells Z2 T2)
 have k1:=setRow_heap _ _ _ V1 _ _ h0
 have k2:(((w.alloc (.cells Z1 T)).alloc (.cells Z2 T2)).setRow w.heap.size V1).heap[w.heap.size+1]? =some (.cells Z2 T2 (0,0)):=by rw[setRow_other _ _ _ _ (by omega)];exact h1
 refine ⟨by rw[setRow_other _ _ _ _ (by omega)];exact k1,setRow_heap _ _ _ V2 _ _ k2, ?_,by simp⟩
 have hb:Below w.heap.size w ((w.alloc (.cells Z1 T)).alloc (.cells Z2 T2)):=((Br _ w).alloc (Nr _) _).alloc (by simp) _
 exact below_keep (below_keep hb (keep_setRow _ _ _) (fun f hf=>by rw[M1' hf];exact Nr _)) (keep_setRow _ _ _) (G1 (by omega))
theorem two_old (w:World) (Z1 Z2 V1:Array Value) (T T2:TypeId):(((w.alloc (.cells Z1 T)).alloc (.cells Z2 T2)).setRow w.heap.size V1).heap[w.heap.size+1]? =some (.cells Z2 T2 (0,0)):=by rw[setRow_other _ _ _ _ (by omega)];exact a2_1 w (.cells Z1 T) (.cells Z2 T2)
theorem zu_box {w:World} {K:Nat} (h:w.heap[K]? =some (.cells #[.int .i64 0,.slice none 0 0,.slice none 0 0,.slice none 0 0,.int .i64 0,.bool false,.bool false,.slice none 0 0,.slice none 0 0,.int .i64 0,.int .i64 0,.int .i64 0,.int .i64 0,.int .i64 0,.bool false,.int .i64 0] 36 (0,0))):RuBox w K:=⟨⟨0,[],0,0,0,0,0,false,0⟩,0,none,0,0,none,0,0,none,0,0,none,0,0,none,0,0,h⟩
theorem ulg_arg0 {w0 w:World} {u:Nat} {x:Us} {s:Ps} {P:List Nat→World→Prop} {v:Value} {l:List UInt8} (H:ULG w0 u x s P [] w) (hB:Bytes [] w0 v l):ULG w0 u x s (fun F w=>P F w∧Bytes F w v l) [] w:=by
 obtain ⟨h1,base,g,h,iv,rv,lv,h2,h3,h4,h5,h6,h7⟩:=H
 exact ⟨h1,base,g,h,iv,rv,lv,h2,h3,h4,⟨h5,Raw.keep (F':=_) hB (Keep.of_below' (F:=[]) h1) (fun f hf=>by cases hf) (fun f hf=> .inr (Nat.le_trans h2 (h4.ufb h3 f (by simpa using hf))))⟩,h6,h7⟩
theorem ulg_clone {w0 w:World} {u:Nat} {x:Us} {s:Ps} {P:List Nat→World→Prop} {L:List Nat} (H:ULG w0 u x s P L w) (hP:Kept P) (hs:s.inst=false) (hll:x.led.length≤1000):
  Calls Tryz.prog 8 #[.pointer (some ⟨u,0,none⟩)] w fun e w'=>∃c,e= .returned (.pointer (some ⟨c,0,none⟩))∧ULG w0 u x s (fun F w=>P F w∧UC F w c x s) L w'∧Below w.heap.size w w':=by
 have H':=H
 obtain ⟨_,base,g,h,iv,rv,lv,_,_,h4,_,_,_⟩:=H'
 refine (uclone_any h4 hs hll).mono ?_
 rintro e w' ⟨c,rfl,hc,hb⟩
 exact ⟨c,rfl,H.step hP hb (fun F hF _ h=>⟨h,hc F hF⟩),hb⟩
theorem bytes_nil {F:List Nat} {w:World} {v:Value} {l:List UInt8} (h:Bytes F w v l):Bytes [] w v l:=Raw.keep (F':=[]) h (Keep.refl [] w) (fun f hf=>by cases hf) (fun f hf=>by cases hf)
def B4 (v1 v2 v3 v4:Value) (l1 l2 l3 l4:List UInt8) (F:List Nat) (w:World):Prop:=Bytes F w v1 l1∧(Bytes F w v2 l2∧(Bytes F w v3 l3∧Bytes F w v4 l4))
theorem B4.kept (v1 v2 v3 v4:Value) (l1 l2 l3 l4:List UInt8):Kept (B4 v1 v2 v3 v4 l1 l2 l3 l4):=(Bytes.kept _ _).and ((Bytes.kept _ _).and ((Bytes.kept _ _).and (Bytes.kept _ _)))
def Bx (A:Nat) (cs:Array Value) (t:TypeId) (F:List Nat) (w:World):Prop:=A∉F∧w.heap[A]? =some (.cells cs t (0,0))
theorem Bx.kept (A:Nat) (cs:Array Value) (t:TypeId):Kept (Bx A cs t):=fun F F' G w w' h hk hG hF=>by
 have hl:=(Al h.2)
 exact ⟨fun hm=>(hF A hm).elim h.1 (fun h'=>by omega),(hk.block A hl (fun hm=>(hG A hm).elim h.1 (fun h'=>by omega))).trans h.2⟩
theorem six_kept {P:List Nat→World→Prop} (hP:Kept P) (v1 v2 v3 v4:Value) (l1 l2 l3 l4:List UInt8) (A B:Nat) (ca cb:Array Value) (ta tb:TypeId):Kept (fun F w=>P F w∧(B4 v1 v2 v3 v4 l1 l2 l3 l4 F w∧(Bx A ca ta F w∧Bx B cb tb F w))):=hP.and ((B4.kept _ _ _ _ _ _ _ _).and ((Bx.kept _ _ _).and (Bx.kept _ _ _)))
theorem ulg_own6 {w0 w w':World} {u:Nat} {x:Us} {s:Ps} {P:List Nat→World→Prop} {L:List Nat} {v1 v2 v3 v4:Value} {l1 l2 l3 l4:List UInt8} {A B:Nat} {ca cb:Array Value} {ta tb:TypeId} (H:ULG w0 u x s P L w) (hP:Kept P) (hb:Below w.heap.size w w') (o1:w'.ownsRow w.heap.size 5 1 v1 l1.length (bytesV l1)) (o2:w'.ownsRow w.heap.size 5 1 v2 l2.length (bytesV l2)) (o3:w'.ownsRow w.heap.size 5 1 v3 l3.length (bytesV l3)) (o4:w'.ownsRow w.heap.size 5 1 v4 l4.length (bytesV l4)) (hA:w'.heap[A]? =some (.cells ca ta (0,0))) (hB:w'.heap[B]? =some (.cells cb tb (0,0))) (qA:w.heap.size≤A) (qB:w.heap.size≤B):ULG w0 u x s (fun F w=>P F w∧(B4 v1 v2 v3 v4 l1 l2 l3 l4 F w∧(Bx A ca ta F w∧Bx B cb tb F w))) L w':=by
 obtain ⟨F,hF,hp,_,hc⟩:=H.open
 exact hc _ w' hb ⟨Kept.below hP hb hp,⟨Bytes.row (F:=F) o1 rfl hF,Bytes.row (F:=F) o2 rfl hF,Bytes.row (F:=F) o3 rfl hF,Bytes.row (F:=F) o4 rfl hF⟩,⟨fun hm=>by have:=hF A hm;omega,hA⟩,fun hm=>by have:=hF B hm;omega,hB⟩
theorem share_b0 {G:Prop} {F C:World→Nat→Option Addr→Nat→Option Addr→Nat→Prop} (h:Hid (∀(y2:World) (Oa:Nat) (ta1:Option Addr) (ta2:Nat) (te1:Option Addr) (te2:Nat),C y2 Oa ta1 ta2 te1 te2→F y2 Oa ta1 ta2 te1 te2)→G) (t:∀(y2:World) (Oa:Nat) (ta1:Option Addr) (ta2:Nat) (te1:Option Addr) (te2:Nat),C y2 Oa ta1 ta2 te1 te2→F y2 Oa ta1 ta2 te1 te2):G:=h (Hj t)
theorem share_b1 {G:Prop} {F C:World→Nat→Option Addr→Nat→Option Addr→Nat→Prop} (h:Hid (∀(y2:World) (Ob:Nat) (ta1:Option Addr) (ta2:Nat) (te1:Option Addr) (te2:Nat),C y2 Ob ta1 ta2 te1 te2→F y2 Ob ta1 ta2 te1 te2)→G) (t:∀(y2:World) (Ob:Nat) (ta1:Option Addr) (ta2:Nat) (te1:Option Addr) (te2:Nat),C y2 Ob ta1 ta2 te1 te2→F y2 Ob ta1 ta2 te1 te2):G:=h (Hj t)
theorem share_b2 {G:Prop} {F C:World→Nat→Nat→Prop} (h:Hid (∀(y2:World) (Oa:Nat) (Ob:Nat),C y2 Oa Ob→F y2 Oa Ob)→G) (t:∀(y2:World) (Oa:Nat) (Ob:Nat),C y2 Oa Ob→F y2 Oa Ob):G:=h (Hj t)
theorem share_b3 {G:Prop} {F C:World→Nat→Option Addr→Nat→Option Addr→Nat→Option Addr→Nat→Option Addr→Nat→Prop} (h:Hid (∀(y3:World) (Oa:Nat) (ta1:Option Addr) (ta2:Nat) (te1:Option Addr) (te2:Nat) (tb1:Option Addr) (tb2:Nat) (tf1:Option Addr) (tf2:Nat),C y3 Oa ta1 ta2 te1 te2 tb1 tb2 tf1 tf2→F y3 Oa ta1 ta2 te1 te2 tb1 tb2 tf1 tf2)→G) (t:∀(y3:World) (Oa:Nat) (ta1:Option Addr) (ta2:Nat) (te1:Option Addr) (te2:Nat) (tb1:Option Addr) (tb2:Nat) (tf1:Option Addr) (tf2:Nat),C y3 Oa ta1 ta2 te1 te2 tb1 tb2 tf1 tf2→F y3 Oa ta1 ta2 te1 te2 tb1 tb2 tf1 tf2):G:=h (Hj t)
theorem share_b4 {G:Prop} {F C:World→Nat→Option Addr→Nat→Option Addr→Nat→Option Addr→Nat→Option Addr→Nat→Prop} (h:Hid (∀(y3:World) (Ob:Nat) (ta1:Option Addr) (ta2:Nat) (te1:Option Addr) (te2:Nat) (tb1:Option Addr) (tb2:Nat) (tf1:Option Addr) (tf2:Nat),C y3 Ob ta1 ta2 te1 te2 tb1 tb2 tf1 tf2→F y3 Ob ta1 ta2 te1 te2 tb1 tb2 tf1 tf2)→G) (t:∀(y3:World) (Ob:Nat) (ta1:Option Addr) (ta2:Nat) (te1:Option Addr) (te2:Nat) (tb1:Option Addr) (tb2:Nat) (tf1:Option Addr) (tf2:Nat),C y3 Ob ta1 ta2 te1 te2 tb1 tb2 tf1 tf2→F y3 Ob ta1 ta2 te1 te2 tb1 tb2 tf1 tf2):G:=h (Hj t)
theorem share_b5 {G:Prop} {F C:World→Nat→Nat→Option Addr→Nat→Option Addr→Nat→Prop} (h:Hid (∀(y3:World) (Oa:Nat) (Ob:Nat) (ta1:Option Addr) (ta2:Nat) (te1:Option Addr) (te2:Nat),C y3 Oa Ob ta1 ta2 te1 te2→F y3 Oa Ob ta1 ta2 te1 te2)→G) (t:∀(y3:World) (Oa:Nat) (Ob:Nat) (ta1:Option Addr) (ta2:Nat) (te1:Option Addr) (te2:Nat),C y3 Oa Ob ta1 ta2 te1 te2→F y3 Oa Ob ta1 ta2 te1 te2):G:=h (Hj t)
theorem share_b6 {G:Prop} {F C:World→Nat→Nat→Option Addr→Nat→Option Addr→Nat→Option Addr→Nat→Option Addr→Nat→Prop} (h:Hid (∀(y4:World) (Oa:Nat) (Ob:Nat) (ta1:Option Addr) (ta2:Nat) (te1:Option Addr) (te2:Nat) (tb1:Option Addr) (tb2:Nat) (tf1:Option Addr) (tf2:Nat),C y4 Oa Ob ta1 ta2 te1 te2 tb1 tb2 tf1 tf2→F y4 Oa Ob ta1 ta2 te1 te2 tb1 tb2 tf1 tf2)→G) (t:∀(y4:World) (Oa:Nat) (Ob:Nat) (ta1:Option Addr) (ta2:Nat) (te1:Option Addr) (te2:Nat) (tb1:Option Addr) (tb2:Nat) (tf1:Option Addr) (tf2:Nat),C y4 Oa Ob ta1 ta2 te1 te2 tb1 tb2 tf1 tf2→F y4 Oa Ob ta1 ta2 te1 te2 tb1 tb2 tf1 tf2):G:=h (Hj t)
theorem share_b7 {G:Prop} {F C:World→Nat→Option Addr→Nat→Option Addr→Nat→Option Addr→Nat→Option Addr→Nat→Oc→Oc→Option Addr→Nat→Option Addr→Nat→Option Addr→Nat→Option Addr→Nat→Prop} (h:Hid (∀(y4:World) (Oa:Nat) (ta1:Option Addr) (ta2:Nat) (te1:Option Addr) (te2:Nat) (tb1:Option Addr) (tb2:Nat) (tf1:Option Addr) (tf2:Nat) (fa:Oc) (fb:Oc) (ja1:Option Addr) (ja2:Nat) (je1:Option Addr) (je2:Nat) (jb1:Option Addr) (jb2:Nat) (jf1:Option Addr) (jf2:Nat),C y4 Oa ta1 ta2 te1 te2 tb1 tb2 tf1 tf2 fa fb ja1 ja2 je1 je2 jb1 jb2 jf1 jf2→F y4 Oa ta1 ta2 te1 te2 tb1 tb2 tf1 tf2 fa fb ja1 ja2 je1 je2 jb1 jb2 jf1 jf2)→G) (t:∀(y4:World) (Oa:Nat) (ta1:Option Addr) (ta2:Nat) (te1:Option Addr) (te2:Nat) (tb1:Option Addr) (tb2:Nat) (tf1:Option Addr) (tf2:Nat) (fa:Oc) (fb:Oc) (ja1:Option Addr) (ja2:Nat) (je1:Option Addr) (je2:Nat) (jb1:Option Addr) (jb2:Nat) (jf1:Option Addr) (jf2:Nat),C y4 Oa ta1 ta2 te1 te2 tb1 tb2 tf1 tf2 fa fb ja1 ja2 je1 je2 jb1 jb2 jf1 jf2→F y4 Oa ta1 ta2 te1 te2 tb1 tb2 tf1 tf2 fa fb ja1 ja2 je1 je2 jb1 jb2 jf1 jf2):G:=h (Hj t)
theorem share_b8 {G:Prop} {F C:World→Nat→Option Addr→Nat→Option Addr→Nat→Option Addr→Nat→Option Addr→Nat→Oc→Oc→Option Addr→Nat→Option Addr→Nat→Option Addr→Nat→Option Addr→Nat→Prop} (h:Hid (∀(y4:World) (Ob:Nat) (ta1:Option Addr) (ta2:Nat) (te1:Option Addr) (te2:Nat) (tb1:Option Addr) (tb2:Nat) (tf1:Option Addr) (tf2:Nat) (fa:Oc) (fb:Oc) (ja1:Option Addr) (ja2:Nat) (je1:Option Addr) (je2:Nat) (jb1:Option Addr) (jb2:Nat) (jf1:Option Addr) (jf2:Nat),C y4 Ob ta1 ta2 te1 te2 tb1 tb2 tf1 tf2 fa fb ja1 ja2 je1 je2 jb1 jb2 jf1 jf2→F y4 Ob ta1 ta2 te1 te2 tb1 tb2 tf1 tf2 fa fb ja1 ja2 je1 je2 jb1 jb2 jf1 jf2)→G) (t:∀(y4:World) (Ob:Nat) (ta1:Option Addr) (ta2:Nat) (te1:Option Addr) (te2:Nat) (tb1:Option Addr) (tb2:Nat) (tf1:Option Addr) (tf2:Nat) (fa:Oc) (fb:Oc) (ja1:Option Addr) (ja2:Nat) (je1:Option Addr) (je2:Nat) (jb1:Option Addr) (jb2:Nat) (jf1:Option Addr) (jf2:Nat),C y4 Ob ta1 ta2 te1 te2 tb1 tb2 tf1 tf2 fa fb ja1 ja2 je1 je2 jb1 jb2 jf1 jf2→F y4 Ob ta1 ta2 te1 te2 tb1 tb2 tf1 tf2 fa fb ja1 ja2 je1 je2 jb1 jb2 jf1 jf2):G:=h (Hj t)
theorem share_b9 {G:Prop} {F C:World→Nat→Nat→Option Addr→Nat→Option Addr→Nat→Option Addr→Nat→Option Addr→Nat→Oc→Oc→Option Addr→Nat→Option Addr→Nat→Option Addr→Nat→Option Addr→Nat→Prop} (h:Hid (∀(y5:World) (Oa:Nat) (Ob:Nat) (ta1:Option Addr) (ta2:Nat) (te1:Option Addr) (te2:Nat) (tb1:Option Addr) (tb2:Nat) (tf1:Option Addr) (tf2:Nat) (fa:Oc) (fb:Oc) (ja1:Option Addr) (ja2:Nat) (je1:Option Addr) (je2:Nat) (jb1:Option Addr) (jb2:Nat) (jf1:Option Addr) (jf2:Nat),C y5 Oa Ob ta1 ta2 te1 te2 tb1 tb2 tf1 tf2 fa fb ja1 ja2 je1 je2 jb1 jb2 jf1 jf2→F y5 Oa Ob ta1 ta2 te1 te2 tb1 tb2 tf1 tf2 fa fb ja1 ja2 je1 je2 jb1 jb2 jf1 jf2)→G) (t:∀(y5:World) (Oa:Nat) (Ob:Nat) (ta1:Option Addr) (ta2:Nat) (te1:Option Addr) (te2:Nat) (tb1:Option Addr) (tb2:Nat) (tf1:Option Addr) (tf2:Nat) (fa:Oc) (fb:Oc) (ja1:Option Addr) (ja2:Nat) (je1:Option Addr) (je2:Nat) (jb1:Option Addr) (jb2:Nat) (jf1:Option Addr) (jf2:Nat),C y5 Oa Ob ta1 ta2 te1 te2 tb1 tb2 tf1 tf2 fa fb ja1 ja2 je1 je2 jb1 jb2 jf1 jf2→F y5 Oa Ob ta1 ta2 te1 te2 tb1 tb2 tf1 tf2 fa fb ja1 ja2 je1 je2 jb1 jb2 jf1 jf2):G:=h (Hj t)
theorem script_any (im:List UInt8) (ks:List Kl) (at_:Int) (iv kv:Value) (w0:World) (hil:im.length≤reachBytes) (ha1:0≤at_) (ha2:at_≤255) (hI:Bytes [] w0 iv im) (hK:SlK w0 kv ks) (hk:∀y∈ks,y.ok w0):
  Calls Tryz.prog 3 #[iv,kv,.int .u8 at_] w0 fun e w'=>e= .returned (.bool true)∧Below w0.heap.size w0 w':=by
 obtain ⟨ia,ic,rfl⟩:=Rs hI
 obtain ⟨ka,kc,rfl⟩:=Rs hK
 have hIl:im.length≤140737488351232:=hil
 have hKl:ks.length≤9223372036854775807:=by
  obtain ⟨_,_,a,cap,_,h3,h4,_⟩:=hK
  unfold maxLen at h4
  omega
 have HI:=Hj hI
 have HK:=Hj hK
 have HKO:=Hj hk
 have bel0:=Br w0.heap.size w0
 clear hI hK hk
 go_enter Tryz.func3,Tryz.ntmps3
 go_wp2_with fail
 refine (awake_any _).mono ?_
 rintro e w1 ⟨rfl,hb1⟩
 have bel1:=bel0.trans (hb1.mono bel0.size)
 clear hb1
 by_cases g1:(400:Int)<im.length
 ·go_wp2
  go_ret
  exact ⟨rfl,bel1⟩
 go_wp2_with fail
 refine (few_any _ ks _ (Rb HK.out bel1) (fun y hy=>(HKO.out y hy).below bel1)).mono ?_
 rintro e w2 ⟨fb,rfl,hfw,hb2⟩
 have bel2:=bel1.trans (hb2.mono bel1.size)
 have HFW:=Hj hfw
 clear hfw hb2
 cases fb
 ·go_wp2
  go_ret
  exact ⟨rfl,bel2⟩
 have HFK:=Hj (HFW.out rfl)
 have hk30:=HFK.out.1
 clear HFW
 go_wp2_with fail
 refine (unew_ok 6 _ im w0 w2 (by omega) (by omega) (by omega) bel2 (Rb HI.out bel2)).mono ?_
 rintro e w3 ⟨u,rfl,hU⟩
 have hU3:=ulg_arg0 hU.lg HI.out
 have HU3:=Hj hU3
 have bel3:=hU3.1
 obtain ⟨F,hF,hPF,_,hcont⟩:=hU3.open
 have HC:=Hj hcont
 clear hU hU3 hcont
 go_wp2_with fail
 refine (rnew31_any (F:=F) 6 _ im w3 (by omega) (by omega) (by omega) hF hPF.2).mono ?_
 rintro e w4 ⟨v4,rfl,hr4,hb4⟩
 obtain ⟨t0,rfl⟩:=RUV.open hr4
 obtain ⟨x0,hx0⟩:∃x0:Us,x0=⟨6,[],1,1,1,2,2,false,0⟩:=⟨_,rfl⟩
 have HX0:=Hj hx0
 rw[←hx0] at hr4 HU3 HC⊢
 have HU4:=Hj (HC.out (fun F w=>RUV F w (.agg (RUL x0 0 im.length t0)) x0 im 0) w4 hb4 hr4)
 have bel4:=bel3.trans (hb4.mono bel3.size)
 have HKP:=Hj (RUV.kept (x:=x0) (.agg (RUL x0 0 im.length t0)) im 0)
 clear hx0 hr4 hb4 HC hPF hF
 go_upto_region 7 with (refine wpList_store_row rfl 36 _ _ rfl w4.heap.size (RUL x0 0 im.length t0) rfl rfl 36 (#[.int .i64 0,.slice none 0 0,.slice none 0 0,.slice none 0 0,.int .i64 0,.bool false,.bool false,.slice none 0 0,.slice none 0 0,.int .i64 0,.int .i64 0,.int .i64 0,.int .i64 0,.int .i64 0,.bool false,.int .i64 0]) (heap_alloc_new w4 _) (by kernel_rfl) rfl (by kernel_rfl) ?_)
 rw[World.setRow_alloc_new]
 obtain ⟨R,hR⟩:∃S,S=w4.heap.size:=⟨_,rfl⟩
 obtain ⟨w5,hw5⟩:∃W,W=w4.alloc (.cells (RUL x0 0 im.length t0) 36):=⟨_,rfl⟩
 rw[←hw5,←hR]
 have hb5:Below w4.heap.size w4 w5:=by rw[hw5];exact (Br _ _).alloc (Nr _) _
 have HR5:Hid (w5.heap[R]? =some (.cells (RUL x0 0 im.length t0) 36 (0,0))):=Hj (by rw[hw5,hR];exact heap_alloc_new w4 _)
 have lR:=(Al HR5.out)
 have qR:w0.heap.size≤R:=by have:=bel4.size;omega
 have HU5:=Hj (HU4.out.more HKP.out hb5 [R] (fun z hz=>by rw[M1' hz];exact ⟨by omega,lR⟩))
 have bel5:=bel4.trans (hb5.mono bel4.size)
 simp only[List.singleton_append] at HU5
 have hRw4:w4.heap.size≤R:=by omega
 clear hw5 hR hb5 HU4 HU3
 go_wp2
 go_cut [11,12] from 60 to 63 (fun cl kp wx=>∃c K t,cl= .pointer (some ⟨c,0,none⟩)∧kp= .pointer (some ⟨K,0,none⟩)∧w0.heap.size≤K∧K≠R∧wx.heap[R]? =some (.cells (RUL x0 0 im.length t) 36 (0,0))∧wx.heap[K]? =some (.cells (RUL x0 0 im.length t) 36 (0,0))∧ULG w0 u x0 ⟨im,0,false,[],0⟩ (PS x0 im 0 t c x0 im 0 t) [K,R] wx)
 case first=>
  as_aux_lemma=>
  have hBl:∀q∈[R],∃cc e f,w5.heap[q]? =some (.cells cc e f):=fun q hq=>by rw[M1' hq];exact ⟨_,_,_,HR5.out⟩
  refine Ty.wp_tree [R] [2] [] [2] [0,2] (.alt [1] (.alt [3,4] (.alt [5] (.done) (.no)) (.no)) (.alt [3] (.alt [1,4] (.alt [5] (.done) (.no)) (.no)) (.no))) (by kernel_rfl) (by kernel_rfl) (by kernel_rfl) (by kernel_rfl) hBl ?_
  obtain ⟨y0,hy⟩:∃y,y=w5.drew:=⟨_,rfl⟩
  have HS0:Hid (SameB [R] y0 y0):=Hj (by rw[hy];exact same_start hBl)
  clear hBl
  rw[←hy]
  have hd:Below w5.heap.size w5 y0:=by rw[hy];exact (Br _ _).drew
  have HU0:=Hj (HU5.out.below HKP.out hd)
  have HRy0:=Hj ((hd.block R lR).trans HR5.out)
  clear hy hd
  try simp only[pick,Gs,Gz]
  go_wp2_with (refine wpList_load_row rfl 36 _ rfl R rfl 36 (RUL x0 0 im.length t0) (0,0) _ HRy0.out Tryz.underlying36 rfl (by kernel_rfl) ?_)
  refine Rm ?_
  refine Wa ?_ (Wa ?_ Ty.wpTr_no)
  ·try simp only[pick,Gs,Gz]
   go_wp2_with fail
   refine (ulg_clone HU0.out HKP.out rfl (by rw[HX0.out];simp)).mono ?_
   rintro e y1 ⟨c,rfl,hu1,hb1⟩
   have HU1:=Hj hu1
   have HS1:=Hj (same_below' HS0.out hb1)
   have HRy1:=Hj (Kb hb1 HRy0.out)
   clear hu1 hb1
   go_wp2
   refine Sm (Ss HS1.out) ?_
   try simp only[pick,Gs,Gz]
   go_wp2
   refine Rm ?_
   refine Wq ?_
   try simp only[pick,Gs,Gz]
   go_wp2
   obtain ⟨K,hK⟩:∃K,K=y1.heap.size:=⟨_,rfl⟩
   obtain ⟨y2,hy⟩:∃W,W=y1.alloc (.cells #[.int .i64 0,.slice none 0 0,.slice none 0 0,.slice none 0 0,.int .i64 0,.bool false,.bool false,.slice none 0 0,.slice none 0 0,.int .i64 0,.int .i64 0,.int .i64 0,.int .i64 0,.int .i64 0,.bool false,.int .i64 0] 36):=⟨_,rfl⟩
   rw[←hy,←hK]
   have hb2:Below y1.heap.size y1 y2:=by rw[hy];exact (Br _ _).alloc (Nr _) _
   have HKy2:Hid (y2.heap[K]? =some (.cells #[.int .i64 0,.slice none 0 0,.slice none 0 0,.slice none 0 0,.int .i64 0,.bool false,.bool false,.slice none 0 0,.slice none 0 0,.int .i64 0,.int .i64 0,.int .i64 0,.int .i64 0,.int .i64 0,.bool false,.int .i64 0] 36 (0,0))):=Hj (by rw[hy,hK];exact heap_alloc_new _ _)
   have lK:=(Al HKy2.out)
   have hRl:=(Al HRy1.out)
   have hKR:K≠R:=by omega
   have HRy2:=Hj ((hb2.block R hRl).trans HRy1.out)
   have qK:w0.heap.size≤K:=by have:=HU1.out.1.size;omega
   have HS2:=Hj (same_below' HS1.out hb2)
   have HU2:=Hj (HU1.out.more (Kept.and HKP.out (UC.kept c)) hb2 [K] (fun z hz=>by rw[M1' hz];exact ⟨by omega,lK⟩))
   simp only[List.singleton_append] at HU2
   clear hK hy hb2 hRl
   refine Sm (Ss HS2.out) ?_
   try simp only[pick,Gs,Gz]
   go_wp2
   refine Rm ?_
   refine Wq ?_
   try simp only[pick,Gs,Gz]
   go_wp2_with (refine wpList_store_row rfl 36 _ _ rfl K (RUL x0 0 im.length t0) rfl rfl 36 (#[.int .i64 0,.slice none 0 0,.slice none 0 0,.slice none 0 0,.int .i64 0,.bool false,.bool false,.slice none 0 0,.slice none 0 0,.int .i64 0,.int .i64 0,.int .i64 0,.int .i64 0,.int .i64 0,.bool false,.int .i64 0]) HKy2.out (by kernel_rfl) rfl (by kernel_rfl) ?_)
   obtain ⟨y3,hy⟩:∃W,W=y2.setRow K (RUL x0 0 im.length t0):=⟨_,rfl⟩
   rw[←hy]
   have hk:Keep [K] y2 y3:=by rw[hy];exact keep_setRow _ _ _
   have HKy3:Hid (y3.heap[K]? =some (.cells (RUL x0 0 im.length t0) 36 (0,0))):=Hj (by rw[hy];exact setRow_heap _ _ _ _ _ _ HKy2.out)
   have HRy3:=Hj ((hk.block R (Al HRy2.out) (by simp;omega)).trans HRy2.out)
   have HS3:=Hj (same_keepR HS2.out hk (by intro q hq;simp only[List.mem_cons,List.not_mem_nil,or_false] at hq;omega))
   have HU3:=Hj (HU2.out.put (Kept.and HKP.out (UC.kept c)) rfl (by simp) qK (zu_box HKy2.out) hk)
   clear hy hk
   refine Sm (Ss HS3.out) ?_
   try simp only[pick,Gs,Gz]
   go_wp2
   refine Rm ?_
   refine Wd (by rfl) ⟨.head _,trivial⟩ ?_
   go_wp2
   go_meet
   case rel=>exact ⟨c,K,t0,rfl,rfl,qK,hKR,HRy3.out,HKy3.out,HU3.out.imp (fun F w h=>⟨h.1,h.2,h.1⟩)⟩
  try simp only[pick,Gs,Gz]
  go_wp2
  obtain ⟨K,hK⟩:∃K,K=y0.heap.size:=⟨_,rfl⟩
  obtain ⟨y1,hy⟩:∃W,W=y0.alloc (.cells #[.int .i64 0,.slice none 0 0,.slice none 0 0,.slice none 0 0,.int .i64 0,.bool false,.bool false,.slice none 0 0,.slice none 0 0,.int .i64 0,.int .i64 0,.int .i64 0,.int .i64 0,.int .i64 0,.bool false,.int .i64 0] 36):=⟨_,rfl⟩
  rw[←hy,←hK]
  have hb1:Below y0.heap.size y0 y1:=by rw[hy];exact (Br _ _).alloc (Nr _) _
  have HKy1:Hid (y1.heap[K]? =some (.cells #[.int .i64 0,.slice none 0 0,.slice none 0 0,.slice none 0 0,.int .i64 0,.bool false,.bool false,.slice none 0 0,.slice none 0 0,.int .i64 0,.int .i64 0,.int .i64 0,.int .i64 0,.int .i64 0,.bool false,.int .i64 0] 36 (0,0))):=Hj (by rw[hy,hK];exact heap_alloc_new _ _)
  have lK:=(Al HKy1.out)
  have hRl:=(Al HRy0.out)
  have hKR:K≠R:=by omega
  have HRy1:=Hj ((hb1.block R hRl).trans HRy0.out)
  have qK:w0.heap.size≤K:=by have:=HU0.out.1.size;omega
  have HS1:=Hj (same_below' HS0.out hb1)
  have HU1:=Hj (HU0.out.more HKP.out hb1 [K] (fun z hz=>by rw[M1' hz];exact ⟨by omega,lK⟩))
  simp only[List.singleton_append] at HU1
  clear hK hy hb1 hRl
  refine Sm (Ss HS1.out) ?_
  try simp only[pick,Gs,Gz]
  go_wp2
  refine Rm ?_
  refine Wq ?_
  try simp only[pick,Gs,Gz]
  go_wp2_with fail
  refine (ulg_clone HU1.out HKP.out rfl (by rw[HX0.out];simp)).mono ?_
  rintro e y2 ⟨c,rfl,hu2,hb2⟩
  have HU2:=Hj hu2
  have HS2:=Hj (same_below' HS1.out hb2)
  have HRy2:=Hj (Kb hb2 HRy1.out)
  have HKy2:=Hj ((hb2.block K lK).trans HKy1.out)
  clear hu2 hb2
  go_wp2
  refine Sm (Ss HS2.out) ?_
  try simp only[pick,Gs,Gz]
  go_wp2
  refine Rm ?_
  refine Wq ?_
  try simp only[pick,Gs,Gz]
  go_wp2_with (refine wpList_store_row rfl 36 _ _ rfl K (RUL x0 0 im.length t0) rfl rfl 36 (#[.int .i64 0,.slice none 0 0,.slice none 0 0,.slice none 0 0,.int .i64 0,.bool false,.bool false,.slice none 0 0,.slice none 0 0,.int .i64 0,.int .i64 0,.int .i64 0,.int .i64 0,.int .i64 0,.bool false,.int .i64 0]) HKy2.out (by kernel_rfl) rfl (by kernel_rfl) ?_)
  obtain ⟨y3,hy⟩:∃W,W=y2.setRow K (RUL x0 0 im.length t0):=⟨_,rfl⟩
  rw[←hy]
  have hk:Keep [K] y2 y3:=by rw[hy];exact keep_setRow _ _ _
  have HKy3:Hid (y3.heap[K]? =some (.cells (RUL x0 0 im.length t0) 36 (0,0))):=Hj (by rw[hy];exact setRow_heap _ _ _ _ _ _ HKy2.out)
  have HRy3:=Hj ((hk.block R (Al HRy2.out) (by simp;omega)).trans HRy2.out)
  have HS3:=Hj (same_keepR HS2.out hk (by intro q hq;simp only[List.mem_cons,List.not_mem_nil,or_false] at hq;omega))
  have HU3:=Hj (HU2.out.put (Kept.and HKP.out (UC.kept c)) rfl (by simp) qK (zu_box HKy2.out) hk)
  clear hy hk
  refine Sm (Ss HS3.out) ?_
  try simp only[pick,Gs,Gz]
  go_wp2
  refine Rm ?_
  refine Wd (by rfl) ⟨.head _,trivial⟩ ?_
  go_wp2
  go_meet
  case rel=>exact ⟨c,K,t0,rfl,rfl,qK,hKR,HRy3.out,HKy3.out,HU3.out.imp (fun F w h=>⟨h.1,h.2,h.1⟩)⟩
 case rest=>
 as_aux_lemma=>
 obtain ⟨c0,K,t1,rfl,rfl,qK,hKR,hRc,hKc,hUc⟩:=hcut
 obtain ⟨w6,hw6⟩:∃W,W=wc:=⟨_,rfl⟩
 rw[←hw6] at hRc hKc hUc⊢
 have HR6:=Hj hRc;have HK6:=Hj hKc;have HU6:=Hj hUc
 clear hw6 wc hRc hKc hUc HR5 HU5 HKP
 go_wp2
 go_loopw [11,13] (fun cl i wr=>∃(k:Nat) (x:Us) (img:List UInt8) (ver:Nat) (t:RS) (c:Nat) (xk:Us) (imk:List UInt8) (vk:Nat) (tk:RS),k≤ks.length∧i= .int .i64 k∧cl= .pointer (some ⟨c,0,none⟩)∧TI x img ver k∧xk.led.length≤1000∧wr.heap[R]? =some (.cells (RUL x ver img.length t) 36 (0,0))∧wr.heap[K]? =some (.cells (RUL xk vk imk.length tk) 36 (0,0))∧ULG w0 u x ⟨img,ver,false,[],0⟩ (PS x img ver t c xk imk vk tk) [K,R] wr) (fun _ i _=>ks.length - (intOf i).toNat)
 case atStart=>exact ⟨0,x0,im,0,t1,c0,x0,im,0,t1,Nat.zero_le _,rfl,rfl,by rw[HX0.out];exact ⟨rfl,Nr _,by show im.length≤400;omega,Nat.zero_le _,by show (0:Int)≤1;omega,by show (1:Int)≤_;omega,by show (0:Int)≤2;omega,by show (2:Int)≤_;omega⟩,by rw[HX0.out];simp,HR6.out,HK6.out,HU6.out⟩
 case round=>
  as_aux_lemma=>
  rename World=>w7
  obtain ⟨k,x,img,ver,t,c,xk,imk,vk,tk,hk,rfl,rfl,hT,hxk,hR,hK,hU⟩:=hrel
  have HT:=Hj hT;have HXK:=Hj hxk;have HR7:=Hj hR;have HK7:=Hj hK;have HU7:=Hj hU
  clear hT hxk hR hK hU
  by_cases hlt:k<ks.length
  rotate_left
  ·obtain rfl:k=ks.length:=by omega
   obtain ⟨F,hF,⟨_,hc,hr⟩,_,_⟩:=HU7.out.open
   obtain ⟨base,g,h,iv,rv,lv,hat⟩:=hc.at
   have hb7:=HU7.out.1
   have HAT:=Hj hat;have HRR:=Hj (RUV.nil hr)
   clear hc hr hat
   go_wp2_with (refine wpList_load_row rfl 36 _ rfl K rfl 36 (RUL xk vk imk.length tk) (0,0) _ HK7.out Tryz.underlying36 rfl (by kernel_rfl) ?_)
   refine (same31_any HAT.out _ HXK.out HRR.out).mono ?_
   rintro e w8 ⟨rfl,hb⟩
   go_wp2
   go_ret
   exact ⟨rfl,hb7.trans (hb.mono hb7.size)⟩
  obtain ⟨y,hy⟩:∃y,ks[k]? =some y:=⟨_,List.getElem?_eq_getElem hlt⟩
  have hok:=HKO.out y (List.mem_of_getElem? hy)
  obtain ⟨fy1,fy2,fy3⟩:y.few:=HFK.out.2 y (List.mem_of_getElem? hy)
  obtain ⟨b,off,rfl,hb,hc⟩:=SlK.elem (show SlK w7 (.slice ka ks.length kc) ks from Rb HK.out HU7.out.1) hy
  obtain ⟨da,dc,ai,ac,ae,aec,bi,bc,be,bec,henc,hD,hA,hE,hA2,hE2⟩:=Kl.cells hok
  have HFT:=Hj hok.2.2.2.2.2.1
  have HD:=Hj hD;have HA:=Hj hA;have HE:=Hj hE;have HA2:=Hj hA2;have HE2:=Hj hE2
  rw[henc] at hc
  have HCN:Hid (w7.rangeAt b (off+k*29) [.int .i64 y.op,.int .i64 y.mode,.int .i64 y.p.c,.int .i64 y.p.n,.int .i64 y.p.e,.int .i64 y.p.k,.int .i64 y.p.s,.int .i64 y.p.pl,.int .i64 y.p.m,.int .i64 y.ms,.int .i64 y.md,.int .i64 y.mt,.int .i64 y.mq,.int .i64 y.m0,.int .i64 y.m1,.int .i64 y.m2,.int .i64 y.m3,.slice da y.d.length dc,.int .i64 y.a.en,.int .i64 y.a.st,.int .i64 y.a.er,.slice ai y.a.im.length ac,.slice ae y.a.ef.length aec,.int .i64 y.b.en,.int .i64 y.b.st,.int .i64 y.b.er,.slice bi y.b.im.length bc,.slice be y.b.ef.length bec,.bool y.pm]):=Hj (fun j v hv=>by
   have h:=hc j v hv
   rwa [←Nat.add_assoc] at h)
  have HU7:=Hj (ulg_rows HU7.out (fun z hz=>by
   simp only[List.mem_cons,List.not_mem_nil,or_false] at hz
   rcases hz with rfl | rfl
   ·exact qK
   exact qR) hD hA hE hA2 hE2)
  have HKP:Hid (Kept (fun F w=>PS x img ver t c xk imk vk tk F w∧B5 (.slice da y.d.length dc) (.slice ai y.a.im.length ac) (.slice ae y.a.ef.length aec) (.slice bi y.b.im.length bc) (.slice be y.b.ef.length bec) y.d y.a.im y.a.ef y.b.im y.b.ef F w)):=Hj ((PS.kept _ _ _ _ _ _ _ _ _).and (B5.kept _ _ _ _ _ _ _ _ _ _))
  clear hD hA hE hA2 hE2 hc henc hok hy hb
  go_upto_region 14 with (first | refine wpList_load_mid rfl 49 _ rfl b (off+k*29) rfl [.int .i64 y.op,.int .i64 y.mode,.int .i64 y.p.c,.int .i64 y.p.n,.int .i64 y.p.e,.int .i64 y.p.k,.int .i64 y.p.s,.int .i64 y.p.pl,.int .i64 y.p.m,.int .i64 y.ms,.int .i64 y.md,.int .i64 y.mt,.int .i64 y.mq,.int .i64 y.m0,.int .i64 y.m1,.int .i64 y.m2,.int .i64 y.m3,.slice da y.d.length dc,.int .i64 y.a.en,.int .i64 y.a.st,.int .i64 y.a.er,.slice ai y.a.im.length ac,.slice ae y.a.ef.length aec,.int .i64 y.b.en,.int .i64 y.b.st,.int .i64 y.b.er,.slice bi y.b.im.length bc,.slice be y.b.ef.length bec,.bool y.pm] _ (HCN.out) Tryz.underlying49 rfl (by kernel_rfl) ?_ | refine wpList_store_row rfl 49 _ _ rfl w7.heap.size (#[.int .i64 y.op,.int .i64 y.mode,.int .i64 y.p.c,.int .i64 y.p.n,.int .i64 y.p.e,.int .i64 y.p.k,.int .i64 y.p.s,.int .i64 y.p.pl,.int .i64 y.p.m,.int .i64 y.ms,.int .i64 y.md,.int .i64 y.mt,.int .i64 y.mq,.int .i64 y.m0,.int .i64 y.m1,.int .i64 y.m2,.int .i64 y.m3,.slice da y.d.length dc,.int .i64 y.a.en,.int .i64 y.a.st,.int .i64 y.a.er,.slice ai y.a.im.length ac,.slice ae y.a.ef.length aec,.int .i64 y.b.en,.int .i64 y.b.st,.int .i64 y.b.er,.slice bi y.b.im.length bc,.slice be y.b.ef.length bec,.bool y.pm]) rfl rfl 49 (#[.int .i64 0,.int .i64 0,.int .i64 0,.int .i64 0,.int .i64 0,.int .i64 0,.int .i64 0,.int .i64 0,.int .i64 0,.int .i64 0,.int .i64 0,.int .i64 0,.int .i64 0,.int .i64 0,.int .i64 0,.int .i64 0,.int .i64 0,.slice none 0 0,.int .i64 0,.int .i64 0,.int .i64 0,.slice none 0 0,.slice none 0 0,.int .i64 0,.int .i64 0,.int .i64 0,.slice none 0 0,.slice none 0 0,.bool false]) (heap_alloc_new w7 _) (by kernel_rfl) rfl (by kernel_rfl) ?_)
  rw[World.setRow_alloc_new]
  obtain ⟨C,hC⟩:∃S,S=w7.heap.size:=⟨_,rfl⟩
  obtain ⟨w8,hw⟩:∃W,W=w7.alloc (.cells (#[.int .i64 y.op,.int .i64 y.mode,.int .i64 y.p.c,.int .i64 y.p.n,.int .i64 y.p.e,.int .i64 y.p.k,.int .i64 y.p.s,.int .i64 y.p.pl,.int .i64 y.p.m,.int .i64 y.ms,.int .i64 y.md,.int .i64 y.mt,.int .i64 y.mq,.int .i64 y.m0,.int .i64 y.m1,.int .i64 y.m2,.int .i64 y.m3,.slice da y.d.length dc,.int .i64 y.a.en,.int .i64 y.a.st,.int .i64 y.a.er,.slice ai y.a.im.length ac,.slice ae y.a.ef.length aec,.int .i64 y.b.en,.int .i64 y.b.st,.int .i64 y.b.er,.slice bi y.b.im.length bc,.slice be y.b.ef.length bec,.bool y.pm]) 49):=⟨_,rfl⟩
  rw[←hw,←hC]
  have hb:Below w7.heap.size w7 w8:=by rw[hw];exact (Br _ _).alloc (Nr _) _
  have HC8:Hid (w8.heap[C]? =some (.cells (#[.int .i64 y.op,.int .i64 y.mode,.int .i64 y.p.c,.int .i64 y.p.n,.int .i64 y.p.e,.int .i64 y.p.k,.int .i64 y.p.s,.int .i64 y.p.pl,.int .i64 y.p.m,.int .i64 y.ms,.int .i64 y.md,.int .i64 y.mt,.int .i64 y.mq,.int .i64 y.m0,.int .i64 y.m1,.int .i64 y.m2,.int .i64 y.m3,.slice da y.d.length dc,.int .i64 y.a.en,.int .i64 y.a.st,.int .i64 y.a.er,.slice ai y.a.im.length ac,.slice ae y.a.ef.length aec,.int .i64 y.b.en,.int .i64 y.b.st,.int .i64 y.b.er,.slice bi y.b.im.length bc,.slice be y.b.ef.length bec,.bool y.pm]) 49 (0,0))):=Hj (by rw[hw,hC];exact heap_alloc_new _ _)
  have lC:=(Al HC8.out)
  have lR:=(Al HR7.out)
  have lK:=(Al HK7.out)
  have qC:w0.heap.size≤C:=by have:=HU7.out.1.size;omega
  have hCR:C≠R:=by omega
  have hCK:C≠K:=by omega
  have HU8:=Hj (HU7.out.more HKP.out hb [C] (fun z hz=>by rw[M1' hz];exact ⟨by omega,lC⟩))
  simp only[List.singleton_append] at HU8
  have HR8:=Hj ((hb.block R lR).trans HR7.out)
  have HK8:=Hj ((hb.block K lK).trans HK7.out)
  clear hw hC hb HCN lC lR lK HU7 HR7 HK7
  have HQ:=Hj (show -9223372036854775808≤y.mq∧y.mq≤9223372036854775807 from by have:=HFT.out y.mq (by simp);unfold fits at this;omega)
  have hti:ver≤k∧img.length≤400∧x.led.length≤k:=by obtain ⟨_,h2,h3,h4,_⟩:=HT.out;exact ⟨h2,h3,h4⟩
  obtain ⟨hti1,hti2,hti3⟩:=hti
  go_wp2_with (refine wpList_load_mid rfl 44 _ rfl C 9 rfl [.int .i64 y.ms,.int .i64 y.md,.int .i64 y.mt,.int .i64 y.mq,.int .i64 y.m0,.int .i64 y.m1,.int .i64 y.m2,.int .i64 y.m3,.slice da y.d.length dc] _ (range_of HC8.out [.int .i64 y.ms,.int .i64 y.md,.int .i64 y.mt,.int .i64 y.mq,.int .i64 y.m0,.int .i64 y.m1,.int .i64 y.m2,.int .i64 y.m3,.slice da y.d.length dc] rfl) Tryz.underlying44 rfl (by kernel_rfl) ?_)
  refine (ull_see HU8.out.ull y.ms y.md y.mt y.mq y.m0 y.m1 y.m2 y.m3 _ (by omega) HQ.out.1 HQ.out.2).mono ?_
  rintro e w9 ⟨rfl,hb,_⟩
  have HR9:=Hj (Kb hb HR8.out)
  have HK9:=Hj (Kb hb HK8.out)
  have HC9:=Hj (Kb hb HC8.out)
  have HU9:=Hj (HU8.out.below HKP.out hb)
  clear hb HU8 HR8 HK8 HC8
  go_wp2_with (first | refine wpList_load_row rfl 36 _ rfl R rfl 36 (RUL x ver img.length t) (0,0) _ HR9.out Tryz.underlying36 rfl (by kernel_rfl) ?_ | refine wpList_load_mid rfl 44 _ rfl C 9 rfl [.int .i64 y.ms,.int .i64 y.md,.int .i64 y.mt,.int .i64 y.mq,.int .i64 y.m0,.int .i64 y.m1,.int .i64 y.m2,.int .i64 y.m3,.slice da y.d.length dc] _ (range_of HC9.out [.int .i64 y.ms,.int .i64 y.md,.int .i64 y.mt,.int .i64 y.mq,.int .i64 y.m0,.int .i64 y.m1,.int .i64 y.m2,.int .i64 y.m3,.slice da y.d.length dc] rfl) Tryz.underlying44 rfl (by kernel_rfl) ?_)
  obtain ⟨F,hF,hP,_,_⟩:=HU9.out.open
  refine (rsee31_any (F:=F) _ x img ver y.ms y.md y.mt y.mq y.m0 y.m1 y.m2 y.m3 _ w9 (by omega) HQ.out.1 HQ.out.2 hP.1.1).mono ?_
  clear hP hF
  rintro e w10 ⟨rfl,hb⟩
  have HR10:=Hj (Kb hb HR9.out)
  have HK10:=Hj (Kb hb HK9.out)
  have HC10:=Hj (Kb hb HC9.out)
  have HU10:=Hj (HU9.out.below HKP.out hb)
  clear hb HU9 HR9 HK9 HC9
  obtain ⟨base,g,hh,iv,rv,lv,hat⟩:=ULG.at HU10.out
  have HAT:=Hj hat
  clear hat
  go_wp2_with (first | refine wpList_load_mid rfl 41 _ rfl C 2 rfl [.int .i64 y.p.c,.int .i64 y.p.n,.int .i64 y.p.e,.int .i64 y.p.k,.int .i64 y.p.s,.int .i64 y.p.pl,.int .i64 y.p.m] _ (range_of HC10.out [.int .i64 y.p.c,.int .i64 y.p.n,.int .i64 y.p.e,.int .i64 y.p.k,.int .i64 y.p.s,.int .i64 y.p.pl,.int .i64 y.p.m] rfl) Tryz.underlying41 rfl (by kernel_rfl) ?_ | refine wpList_load_mid rfl 44 _ rfl C 9 rfl [.int .i64 y.ms,.int .i64 y.md,.int .i64 y.mt,.int .i64 y.mq,.int .i64 y.m0,.int .i64 y.m1,.int .i64 y.m2,.int .i64 y.m3,.slice da y.d.length dc] _ (range_of HC10.out [.int .i64 y.ms,.int .i64 y.md,.int .i64 y.mt,.int .i64 y.mq,.int .i64 y.m0,.int .i64 y.m1,.int .i64 y.m2,.int .i64 y.m3,.slice da y.d.length dc] rfl) Tryz.underlying44 rfl (by kernel_rfl) ?_)
  refine (uinputs_any HAT.out y.p y.ms y.md y.mt y.mq y.m0 y.m1 y.m2 y.m3 _ y.d HFT.out (by omega) (Rb HD.out HU10.out.1) (show img.length≤24000 by omega)).mono ?_
  clear HAT
  rintro e w11 ⟨i0,i1,t0,t1,rfl,o0,o1,o2,o3,hb⟩
  obtain ⟨f0,hf0⟩:∃f,f=finp (qof x y.p) 0 img (encM y.ms y.md y.mt y.mq y.m0 y.m1 y.m2 y.m3 y.d):=⟨_,rfl⟩
  obtain ⟨f1,hf1⟩:∃f,f=finp (qof x y.p) 1 img (encM y.ms y.md y.mt y.mq y.m0 y.m1 y.m2 y.m3 y.d):=⟨_,rfl⟩
  have HF0:=Hj hf0;have HF1:=Hj hf1
  replace o0:w11.ownsRow w10.heap.size 5 1 i0 f0.1.length (bytesV f0.1):=by rw[hf0];exact o0
  obtain ⟨ra0,rc0,rfl⟩:=Oq o0
  have Hra011:=Hj (own_base (base':=w0.heap.size) o0 HU10.out.1.size)
  replace o1:w11.ownsRow w10.heap.size 5 1 i1 f1.1.length (bytesV f1.1):=by rw[hf1];exact o1
  obtain ⟨ra1,rc1,rfl⟩:=Oq o1
  have Hra111:=Hj (own_base (base':=w0.heap.size) o1 HU10.out.1.size)
  replace o2:w11.ownsRow w10.heap.size 5 1 t0 f0.2.length (bytesV f0.2):=by rw[hf0];exact o2
  obtain ⟨ra2,rc2,rfl⟩:=Oq o2
  have Hra211:=Hj (own_base (base':=w0.heap.size) o2 HU10.out.1.size)
  replace o3:w11.ownsRow w10.heap.size 5 1 t1 f1.2.length (bytesV f1.2):=by rw[hf1];exact o3
  obtain ⟨ra3,rc3,rfl⟩:=Oq o3
  have Hra311:=Hj (own_base (base':=w0.heap.size) o3 HU10.out.1.size)
  clear o0 o1 o2 o3 hf0 hf1
  have HR11:=Hj (Kb hb HR10.out)
  have HK11:=Hj (Kb hb HK10.out)
  have HC11:=Hj (Kb hb HC10.out)
  have HU11:=Hj (HU10.out.below HKP.out hb)
  clear hb HU10 HR10 HK10 HC10
  go_upto_region 17 with (first | refine wpList_store_row rfl 53 _ _ rfl w11.heap.size (#[.slice ra0 f0.1.length rc0,.slice ra1 f1.1.length rc1]) rfl rfl 53 (#[.slice none 0 0,.slice none 0 0]) (a2_0 w11 _ _) (by kernel_rfl) rfl (by kernel_rfl) ?_ | refine wpList_store_row rfl 53 _ _ rfl (w11.heap.size+1) (#[.slice ra2 f0.2.length rc2,.slice ra3 f1.2.length rc3]) rfl rfl 53 (#[.slice none 0 0,.slice none 0 0]) (two_old w11 _ _ _ _ _) (by kernel_rfl) rfl (by kernel_rfl) ?_)
  obtain ⟨w12,hw⟩:∃W,W=((((w11.alloc (.cells #[.slice none 0 0,.slice none 0 0] 53)).alloc (.cells #[.slice none 0 0,.slice none 0 0] 53)).setRow w11.heap.size (#[.slice ra0 f0.1.length rc0,.slice ra1 f1.1.length rc1])).setRow (w11.heap.size+1) (#[.slice ra2 f0.2.length rc2,.slice ra3 f1.2.length rc3])):=⟨_,rfl⟩
  rw[←hw]
  obtain ⟨n1,n2,hb,nl⟩:=two_rows w11 _ _ _ _ _ _ w12 hw
  obtain ⟨X1,hX1⟩:∃S,S=w11.heap.size:=⟨_,rfl⟩
  obtain ⟨X2,hX2⟩:∃S,S=w11.heap.size+1:=⟨_,rfl⟩
  rw[←hX2] at n2⊢
  rw[←hX1] at n1⊢
  have HX112:=Hj n1
  have HX212:=Hj n2
  have qX1:w0.heap.size≤X1:=by have:=HU11.out.1.size;omega
  have qX2:w0.heap.size≤X2:=by have:=HU11.out.1.size;omega
  clear hw n1 n2 nl hX1 hX2
  have HR12:=Hj (Kb hb HR11.out)
  have HK12:=Hj (Kb hb HK11.out)
  have HC12:=Hj (Kb hb HC11.out)
  have Hra012:=Hj (own_below Hra011.out hb (Nr _))
  have Hra112:=Hj (own_below Hra111.out hb (Nr _))
  have Hra212:=Hj (own_below Hra211.out hb (Nr _))
  have Hra312:=Hj (own_below Hra311.out hb (Nr _))
  have HU12:=Hj (HU11.out.below HKP.out hb)
  clear hb HU11 HR11 HK11 HC11 Hra011 Hra111 Hra211 Hra311
  obtain ⟨F,hF,hP,_,_⟩:=HU12.out.open
  have HPV:=Hj hP.1.1
  have HPD:=Hj hP.2.1
  clear hP hF
  go_wp2_with (first | refine wpList_load_row rfl 36 _ rfl R rfl 36 (RUL x ver img.length t) (0,0) _ HR12.out Tryz.underlying36 rfl (by kernel_rfl) ?_ | refine wpList_load_mid rfl 41 _ rfl C 2 rfl [.int .i64 y.p.c,.int .i64 y.p.n,.int .i64 y.p.e,.int .i64 y.p.k,.int .i64 y.p.s,.int .i64 y.p.pl,.int .i64 y.p.m] _ (range_of HC12.out [.int .i64 y.p.c,.int .i64 y.p.n,.int .i64 y.p.e,.int .i64 y.p.k,.int .i64 y.p.s,.int .i64 y.p.pl,.int .i64 y.p.m] rfl) Tryz.underlying41 rfl (by kernel_rfl) ?_ | refine wpList_load_mid rfl 44 _ rfl C 9 rfl [.int .i64 y.ms,.int .i64 y.md,.int .i64 y.mt,.int .i64 y.mq,.int .i64 y.m0,.int .i64 y.m1,.int .i64 y.m2,.int .i64 y.m3,.slice da y.d.length dc] _ (range_of HC12.out [.int .i64 y.ms,.int .i64 y.md,.int .i64 y.mt,.int .i64 y.mq,.int .i64 y.m0,.int .i64 y.m1,.int .i64 y.m2,.int .i64 y.m3,.slice da y.d.length dc] rfl) Tryz.underlying44 rfl (by kernel_rfl) ?_)
  refine (rinputs31_any (F:=F) _ x img ver y.p y.ms y.md y.mt y.mq y.m0 y.m1 y.m2 y.m3 _ y.d w12 HFT.out (by omega) HPD.out (by omega) HPV.out).mono ?_
  clear HPV HPD
  rintro e w13 ⟨i0,i1,t0,t1,rfl,o0,o1,o2,o3,hb⟩
  replace o0:w13.ownsRow w12.heap.size 5 1 i0 f0.1.length (bytesV f0.1):=by rw[HF0.out];exact o0
  obtain ⟨sa0,sc0,rfl⟩:=Oq o0
  have Hsa013:=Hj (own_base (base':=w0.heap.size) o0 HU12.out.1.size)
  replace o1:w13.ownsRow w12.heap.size 5 1 i1 f1.1.length (bytesV f1.1):=by rw[HF1.out];exact o1
  obtain ⟨sa1,sc1,rfl⟩:=Oq o1
  have Hsa113:=Hj (own_base (base':=w0.heap.size) o1 HU12.out.1.size)
  replace o2:w13.ownsRow w12.heap.size 5 1 t0 f0.2.length (bytesV f0.2):=by rw[HF0.out];exact o2
  obtain ⟨sa2,sc2,rfl⟩:=Oq o2
  have Hsa213:=Hj (own_base (base':=w0.heap.size) o2 HU12.out.1.size)
  replace o3:w13.ownsRow w12.heap.size 5 1 t1 f1.2.length (bytesV f1.2):=by rw[HF1.out];exact o3
  obtain ⟨sa3,sc3,rfl⟩:=Oq o3
  have Hsa313:=Hj (own_base (base':=w0.heap.size) o3 HU12.out.1.size)
  clear o0 o1 o2 o3
  have HR13:=Hj (Kb hb HR12.out)
  have HK13:=Hj (Kb hb HK12.out)
  have HC13:=Hj (Kb hb HC12.out)
  have HX113:=Hj (Kb hb HX112.out)
  have HX213:=Hj (Kb hb HX212.out)
  have Hra013:=Hj (own_below Hra012.out hb (Nr _))
  have Hra113:=Hj (own_below Hra112.out hb (Nr _))
  have Hra213:=Hj (own_below Hra212.out hb (Nr _))
  have Hra313:=Hj (own_below Hra312.out hb (Nr _))
  have HU13:=Hj (HU12.out.below HKP.out hb)
  clear hb HU12 HR12 HK12 HC12 HX112 HX212 Hra012 Hra112 Hra212 Hra312
  go_upto_region 18 with (first | refine wpList_store_row rfl 53 _ _ rfl w13.heap.size (#[.slice sa0 f0.1.length sc0,.slice sa1 f1.1.length sc1]) rfl rfl 53 (#[.slice none 0 0,.slice none 0 0]) (a2_0 w13 _ _) (by kernel_rfl) rfl (by kernel_rfl) ?_ | refine wpList_store_row rfl 53 _ _ rfl (w13.heap.size+1) (#[.slice sa2 f0.2.length sc2,.slice sa3 f1.2.length sc3]) rfl rfl 53 (#[.slice none 0 0,.slice none 0 0]) (two_old w13 _ _ _ _ _) (by kernel_rfl) rfl (by kernel_rfl) ?_)
  obtain ⟨w14,hw⟩:∃W,W=((((w13.alloc (.cells #[.slice none 0 0,.slice none 0 0] 53)).alloc (.cells #[.slice none 0 0,.slice none 0 0] 53)).setRow w13.heap.size (#[.slice sa0 f0.1.length sc0,.slice sa1 f1.1.length sc1])).setRow (w13.heap.size+1) (#[.slice sa2 f0.2.length sc2,.slice sa3 f1.2.length sc3])):=⟨_,rfl⟩
  rw[←hw]
  obtain ⟨n1,n2,hb,nl⟩:=two_rows w13 _ _ _ _ _ _ w14 hw
  obtain ⟨X3,hX3⟩:∃S,S=w13.heap.size:=⟨_,rfl⟩
  obtain ⟨X4,hX4⟩:∃S,S=w13.heap.size+1:=⟨_,rfl⟩
  rw[←hX4] at n2⊢
  rw[←hX3] at n1⊢
  have HX314:=Hj n1
  have HX414:=Hj n2
  have qX3:w0.heap.size≤X3:=by have:=HU13.out.1.size;omega
  have qX4:w0.heap.size≤X4:=by have:=HU13.out.1.size;omega
  clear hw n1 n2 nl hX3 hX4
  have HR14:=Hj (Kb hb HR13.out)
  have HK14:=Hj (Kb hb HK13.out)
  have HC14:=Hj (Kb hb HC13.out)
  have HX114:=Hj (Kb hb HX113.out)
  have HX214:=Hj (Kb hb HX213.out)
  have Hra014:=Hj (own_below Hra013.out hb (Nr _))
  have Hra114:=Hj (own_below Hra113.out hb (Nr _))
  have Hra214:=Hj (own_below Hra213.out hb (Nr _))
  have Hra314:=Hj (own_below Hra313.out hb (Nr _))
  have Hsa014:=Hj (own_below Hsa013.out hb (Nr _))
  have Hsa114:=Hj (own_below Hsa113.out hb (Nr _))
  have Hsa214:=Hj (own_below Hsa213.out hb (Nr _))
  have Hsa314:=Hj (own_below Hsa313.out hb (Nr _))
  have HU14:=Hj (HU13.out.below HKP.out hb)
  clear hb HU13 HR13 HK13 HC13 HX113 HX213 Hra013 Hra113 Hra213 Hra313 Hsa013 Hsa113 Hsa213 Hsa313
  have kr0:=run_str (Bytes.row (F:=[]) Hra014.out rfl (fun f hf=>by cases hf)) 22 5 9 Tryz.underlying22 Tryz.underlying5 Tryz.underlying9
  have ks0:=run_str (Bytes.row (F:=[]) Hsa014.out rfl (fun f hf=>by cases hf)) 22 5 9 Tryz.underlying22 Tryz.underlying5 Tryz.underlying9
  have he0:=str_eq (rfl:f0.1=f0.1)
  have kr1:=run_str (Bytes.row (F:=[]) Hra114.out rfl (fun f hf=>by cases hf)) 22 5 9 Tryz.underlying22 Tryz.underlying5 Tryz.underlying9
  have ks1:=run_str (Bytes.row (F:=[]) Hsa114.out rfl (fun f hf=>by cases hf)) 22 5 9 Tryz.underlying22 Tryz.underlying5 Tryz.underlying9
  have he1:=str_eq (rfl:f1.1=f1.1)
  have kr2:=run_str (Bytes.row (F:=[]) Hra214.out rfl (fun f hf=>by cases hf)) 22 5 9 Tryz.underlying22 Tryz.underlying5 Tryz.underlying9
  have ks2:=run_str (Bytes.row (F:=[]) Hsa214.out rfl (fun f hf=>by cases hf)) 22 5 9 Tryz.underlying22 Tryz.underlying5 Tryz.underlying9
  have he2:=str_eq (rfl:f0.2=f0.2)
  have kr3:=run_str (Bytes.row (F:=[]) Hra314.out rfl (fun f hf=>by cases hf)) 22 5 9 Tryz.underlying22 Tryz.underlying5 Tryz.underlying9
  have ks3:=run_str (Bytes.row (F:=[]) Hsa314.out rfl (fun f hf=>by cases hf)) 22 5 9 Tryz.underlying22 Tryz.underlying5 Tryz.underlying9
  have he3:=str_eq (rfl:f1.2=f1.2)
  have eX1_0:=Bj HX114.out 0 rfl
  have eX1_1:=Bj HX114.out 1 rfl
  have eX2_0:=Bj HX214.out 0 rfl
  have eX2_1:=Bj HX214.out 1 rfl
  have eX3_0:=Bj HX314.out 0 rfl
  have eX3_1:=Bj HX314.out 1 rfl
  have eX4_0:=Bj HX414.out 0 rfl
  have eX4_1:=Bj HX414.out 1 rfl
  have e0:=Bj HC14.out 0 rfl
  go_upto_if 151 with (fail)
  clear e0 eX1_0 eX1_1 eX2_0 eX2_1 eX3_0 eX3_1 eX4_0 eX4_1 kr0 ks0 he0 Hra014 Hsa014 kr1 ks1 he1 Hra114 Hsa114 kr2 ks2 he2 Hra214 Hsa214 kr3 ks3 he3 Hra314 Hsa314 HX114 HX214 HX314 HX414 HF0 HF1
  go_cut [23,24,25,26,27,28,29,30,31,32,33,34,35,36] from 63 to 254 (fun _ _ _ _ _ _ _ _ _ _ _ _ _ _ wx=>∃(x2:Us) (img2:List UInt8) (ver2:Nat) (t2:RS),TI x2 img2 ver2 (k+1)∧wx.heap[R]? =some (.cells (RUL x2 ver2 img2.length t2) 36 (0,0))∧wx.heap[K]? =some (.cells (RUL xk vk imk.length tk) 36 (0,0))∧ULG w0 u x2 ⟨img2,ver2,false,[],0⟩ (PS x2 img2 ver2 t2 c xk imk vk tk) [K,R] wx)
  case first=>
   as_aux_lemma=>
   by_cases hop:y.op=0
   ·as_aux_lemma=>
    have hg:0≤x.gr∧x.gr≤1000000:=by obtain ⟨_,_,_,_,_,_,h7,h8⟩:=HT.out;omega
    have e1:=Bj HC14.out 1 rfl
    go_wp2_with fail
    refine (ulg_restart HU14.out HKP.out y.mode hg).mono ?_
    rintro e w15 ⟨r,hr,rfl,hU,hz⟩
    have HR15:=Hj ((hz R (by simp)).trans HR14.out)
    have HK15:=Hj ((hz K (by simp)).trans HK14.out)
    have HC15:=Hj ((hz C (by simp)).trans HC14.out)
    have HU15:=Hj hU
    have HRE:=Hj hr
    clear hz hU hr e1 HU14 HR14 HK14 HC14
    have e1:=Bj HC15.out 1 rfl
    go_wp2_with (first | refine wpList_load_row rfl 36 _ rfl R rfl 36 (RUL x ver img.length t) (0,0) _ HR15.out Tryz.underlying36 rfl (by kernel_rfl) ?_)
    obtain ⟨F,hF,hP,_,hcont⟩:=HU15.out.open
    have HPV:=Hj hP;have HCT:=Hj hcont
    clear hP hF hcont e1
    refine (rrestart31_any (F:=F) _ x img ver y.mode w15 hg (by omega) HPV.out.1.1).mono ?_
    rintro e w16 ⟨v',r',hr',rfl,hv',hb⟩
    obtain rfl:r'=r:=by rw[hr',HRE.out]
    obtain ⟨t2,rfl⟩:=RUV.open hv'
    have HU16:=Hj (HCT.out (fun F w=>(PS x img ver t c xk imk vk tk F w∧B5 (.slice da y.d.length dc) (.slice ai y.a.im.length ac) (.slice ae y.a.ef.length aec) (.slice bi y.b.im.length bc) (.slice be y.b.ef.length bec) y.d y.a.im y.a.ef y.b.im y.b.ef F w)∧RUV F w (.agg (RUL r'.1 ver img.length t2)) r'.1 img ver) w16 hb ⟨Kept.below HKP.out hb HPV.out,hv'⟩)
    have HKQ:Hid (Kept (fun F w=>(PS x img ver t c xk imk vk tk F w∧B5 (.slice da y.d.length dc) (.slice ai y.a.im.length ac) (.slice ae y.a.ef.length aec) (.slice bi y.b.im.length bc) (.slice be y.b.ef.length bec) y.d y.a.im y.a.ef y.b.im y.b.ef F w)∧RUV F w (.agg (RUL r'.1 ver img.length t2)) r'.1 img ver)):=Hj (HKP.out.and (RUV.kept _ _ _))
    have HR16:=Hj (Kb hb HR15.out)
    have HK16:=Hj (Kb hb HK15.out)
    clear hb hv' hr' HCT HPV HU15 HR15 HK15 HC15
    go_upto_region 23 with (refine wpList_store_row rfl 36 _ _ rfl w16.heap.size (RUL r'.1 ver img.length t2) rfl rfl 36 (#[.int .i64 0,.slice none 0 0,.slice none 0 0,.slice none 0 0,.int .i64 0,.bool false,.bool false,.slice none 0 0,.slice none 0 0,.int .i64 0,.int .i64 0,.int .i64 0,.int .i64 0,.int .i64 0,.bool false,.int .i64 0]) (heap_alloc_new w16 _) (by kernel_rfl) rfl (by kernel_rfl) ?_)
    rw[World.setRow_alloc_new]
    obtain ⟨N,hN⟩:∃S,S=w16.heap.size:=⟨_,rfl⟩
    obtain ⟨w17,hw⟩:∃W,W=w16.alloc (.cells (RUL r'.1 ver img.length t2) 36):=⟨_,rfl⟩
    rw[←hw,←hN]
    have hb:Below w16.heap.size w16 w17:=by rw[hw];exact (Br _ _).alloc (Nr _) _
    have HN17:Hid (w17.heap[N]? =some (.cells (RUL r'.1 ver img.length t2) 36 (0,0))):=Hj (by rw[hw,hN];exact heap_alloc_new _ _)
    have nRN:R≠N:=by have:=(Al HR16.out);omega
    have nKN:K≠N:=by have:=(Al HK16.out);omega
    have HR17:=Hj (Kb hb HR16.out)
    have HK17:=Hj (Kb hb HK16.out)
    have HU17:=Hj (HU16.out.below HKQ.out hb)
    clear hw hN hb HU16 HR16 HK16
    go_wp2_with (first | refine wpList_load_row rfl 36 _ rfl N rfl 36 (RUL r'.1 ver img.length t2) (0,0) _ HN17.out Tryz.underlying36 rfl (by kernel_rfl) ?_ | refine wpList_store_row rfl 36 _ _ rfl R (RUL r'.1 ver img.length t2) rfl rfl 36 (RUL x ver img.length t) HR17.out (by kernel_rfl) rfl (by kernel_rfl) ?_)
    go_simp
    go_meet
    case rel=>
     obtain ⟨w18,hw⟩:∃W,W=w17.setRow R (RUL r'.1 ver img.length t2):=⟨_,rfl⟩
     rw[←hw]
     have hk:Keep [R] w17 w18:=by rw[hw];exact keep_setRow _ _ _
     have hu:=(HU17.out.put HKQ.out rfl (by simp) qR (RUL.box HR17.out) hk).less HKQ.out (L':=[K,R]) (fun z hz=>by simp only[List.mem_cons,List.not_mem_nil,or_false] at hz⊢;omega)
     refine ⟨r'.1,img,ver,t2,by rw[HRE.out];exact rst_ti HT.out,by rw[hw];exact setRow_heap _ _ _ _ _ _ HR17.out,(hk.block K (Al HK17.out) (by simp;omega)).trans HK17.out,hu.imp (fun F w h=>⟨h.2,h.1.1.2⟩)⟩
   as_aux_lemma=>
   go_upto_region 26 with (fail)
   go_cut [28,29] from 63 to 191 (fun s8 s9 wx=>∃(Oa Ob:Nat) (fa fb:Oc) (ja1:Option Addr) (ja2:Nat) (je1:Option Addr) (je2:Nat) (jb1:Option Addr) (jb2:Nat) (jf1:Option Addr) (jf2:Nat),fa=fout (qof x y.p) 0 y.a∧fb=fout (qof x y.p) 1 y.b∧s8= .pointer (some ⟨Oa,0,none⟩)∧s9= .pointer (some ⟨Ob,0,none⟩)∧wx.heap[Oa]? =some (.cells #[.int .i64 fa.en,.int .i64 fa.st,.int .i64 fa.er,.slice ja1 fa.im.length ja2,.slice je1 fa.ef.length je2] 61 (0,0))∧wx.heap[Ob]? =some (.cells #[.int .i64 fb.en,.int .i64 fb.st,.int .i64 fb.er,.slice jb1 fb.im.length jb2,.slice jf1 fb.ef.length jf2] 61 (0,0))∧wx.heap[C]? =some (.cells #[.int .i64 y.op,.int .i64 y.mode,.int .i64 y.p.c,.int .i64 y.p.n,.int .i64 y.p.e,.int .i64 y.p.k,.int .i64 y.p.s,.int .i64 y.p.pl,.int .i64 y.p.m,.int .i64 y.ms,.int .i64 y.md,.int .i64 y.mt,.int .i64 y.mq,.int .i64 y.m0,.int .i64 y.m1,.int .i64 y.m2,.int .i64 y.m3,.slice da y.d.length dc,.int .i64 y.a.en,.int .i64 y.a.st,.int .i64 y.a.er,.slice ai y.a.im.length ac,.slice ae y.a.ef.length aec,.int .i64 y.b.en,.int .i64 y.b.st,.int .i64 y.b.er,.slice bi y.b.im.length bc,.slice be y.b.ef.length bec,.bool y.pm] 49 (0,0))∧wx.heap[K]? =some (.cells (RUL xk vk imk.length tk) 36 (0,0))∧wx.heap[R]? =some (.cells (RUL x ver img.length t) 36 (0,0))∧w0.heap.size≤Oa∧w0.heap.size≤Ob∧Oa≠R∧Ob≠R∧ULG w0 u x ⟨img,ver,false,[],0⟩ (fun F w=>(PS x img ver t c xk imk vk tk F w∧B5 (.slice da y.d.length dc) (.slice ai y.a.im.length ac) (.slice ae y.a.ef.length aec) (.slice bi y.b.im.length bc) (.slice be y.b.ef.length bec) y.d y.a.im y.a.ef y.b.im y.b.ef F w)∧(B4 (.slice ja1 fa.im.length ja2) (.slice je1 fa.ef.length je2) (.slice jb1 fb.im.length jb2) (.slice jf1 fb.ef.length jf2) fa.im fa.ef fb.im fb.ef F w∧(Bx Oa #[.int .i64 fa.en,.int .i64 fa.st,.int .i64 fa.er,.slice ja1 fa.im.length ja2,.slice je1 fa.ef.length je2] 61 F w∧Bx Ob #[.int .i64 fb.en,.int .i64 fb.st,.int .i64 fb.er,.slice jb1 fb.im.length jb2,.slice jf1 fb.ef.length jf2] 61 F w))) [C,K,R] wx)
   case first=>
    as_aux_lemma=>
    have hBl:=show∀z∈[C],∃cc e f,w14.heap[z]? =some (.cells cc e f) from fun z hz=>by rw[M1' hz];exact ⟨_,_,_,HC14.out⟩
    refine Tz.wp_treeN [C] [2,5,9] [17,18] [2,5,9] [0,1,2,3,4,5,7,8,9] (.alt [6] (.alt [10] (.alt [11,12,13,14] (.alt [15] (.alt [16] (.alt [17] (.alt [18] (.done) (.no)) (.no)) (.no)) (.alt [16] (.alt [15] (.alt [17] (.alt [18] (.done) (.no)) (.no)) (.no)) (.no))) (.alt [15] (.alt [11,12,13,14] (.alt [16] (.alt [17] (.alt [18] (.done) (.no)) (.no)) (.no)) (.alt [16] (.alt [11,12,13,14] (.alt [17] (.alt [18] (.done) (.no)) (.no)) (.no)) (.no))) (.alt [16] (.alt [11,12,13,14] (.alt [15] (.alt [17] (.alt [18] (.done) (.no)) (.no)) (.no)) (.alt [15] (.alt [11,12,13,14] (.alt [17] (.alt [18] (.done) (.no)) (.no)) (.no)) (.no))) (.no)))) (.alt [15] (.alt [10] (.alt [11,12,13,14] (.alt [16] (.alt [17] (.alt [18] (.done) (.no)) (.no)) (.no)) (.alt [16] (.alt [11,12,13,14] (.alt [17] (.alt [18] (.done) (.no)) (.no)) (.no)) (.no))) (.alt [16] (.alt [10] (.alt [11,12,13,14] (.alt [17] (.alt [18] (.done) (.no)) (.no)) (.no)) (.no)) (.no))) (.alt [16] (.alt [10] (.alt [11,12,13,14] (.alt [15] (.alt [17] (.alt [18] (.done) (.no)) (.no)) (.no)) (.alt [15] (.alt [11,12,13,14] (.alt [17] (.alt [18] (.done) (.no)) (.no)) (.no)) (.no))) (.alt [15] (.alt [10] (.alt [11,12,13,14] (.alt [17] (.alt [18] (.done) (.no)) (.no)) (.no)) (.no)) (.no))) (.no)))) (.alt [15] (.alt [6] (.alt [10] (.alt [11,12,13,14] (.alt [16] (.alt [17] (.alt [18] (.done) (.no)) (.no)) (.no)) (.alt [16] (.alt [11,12,13,14] (.alt [17] (.alt [18] (.done) (.no)) (.no)) (.no)) (.no))) (.alt [16] (.alt [10] (.alt [11,12,13,14] (.alt [17] (.alt [18] (.done) (.no)) (.no)) (.no)) (.no)) (.no))) (.alt [16] (.alt [6] (.alt [10] (.alt [11,12,13,14] (.alt [17] (.alt [18] (.done) (.no)) (.no)) (.no)) (.no)) (.no)) (.no))) (.alt [16] (.alt [6] (.alt [10] (.alt [11,12,13,14] (.alt [15] (.alt [17] (.alt [18] (.done) (.no)) (.no)) (.no)) (.alt [15] (.alt [11,12,13,14] (.alt [17] (.alt [18] (.done) (.no)) (.no)) (.no)) (.no))) (.alt [15] (.alt [10] (.alt [11,12,13,14] (.alt [17] (.alt [18] (.done) (.no)) (.no)) (.no)) (.no)) (.no))) (.alt [15] (.alt [6] (.alt [10] (.alt [11,12,13,14] (.alt [17] (.alt [18] (.done) (.no)) (.no)) (.no)) (.no)) (.no)) (.no))) (.no)))) [0,0,2,0,8,16,32,0,128,256,576,1093,2048,4096,4096,0,0,114687,262143] 29631 (by kernel_rfl) (by kernel_rfl) (by kernel_rfl) (by kernel_rfl) (by kernel_rfl) (by kernel_rfl) hBl ?_
    obtain ⟨y0,hy0⟩:∃y,y=w14.drew:=⟨_,rfl⟩
    have HS0:Hid (SameB [C] y0 y0):=Hj (by rw[hy0];exact same_start hBl)
    clear hBl
    rw[←hy0]
    have hd:Below w14.heap.size w14 y0:=by rw[hy0];exact (Br _ _).drew
    have HU0:=Hj (HU14.out.below HKP.out hd)
    have HC0:=Hj (Kb hd HC14.out)
    have HK0:=Hj (Kb hd HK14.out)
    have HR0:=Hj (Kb hd HR14.out)
    have HD0:=Hj (Br y0.heap.size y0)
    have hz0:y0.heap.size≤y0.heap.size:=Nr _
    clear hy0 hd HU14 HC14 HK14 HR14
    apply share_b9 (C:=fun y5 Oa Ob ta1 ta2 te1 te2 tb1 tb2 tf1 tf2 fa fb ja1 ja2 je1 je2 jb1 jb2 jf1 jf2=>(Below y0.heap.size y0 y5)∧(y0.heap.size≤y5.heap.size)∧(SameB [C] y0 y5)∧(y5.ownsRow y0.heap.size 5 1 (.slice ja1 fa.im.length ja2) fa.im.length (bytesV fa.im))∧(y5.ownsRow y0.heap.size 5 1 (.slice je1 fa.ef.length je2) fa.ef.length (bytesV fa.ef))∧(y5.ownsRow y0.heap.size 5 1 (.slice jb1 fb.im.length jb2) fb.im.length (bytesV fb.im))∧(y5.ownsRow y0.heap.size 5 1 (.slice jf1 fb.ef.length jf2) fb.ef.length (bytesV fb.ef))∧(fa=fout (qof x y.p) 0 y.a)∧(fb=fout (qof x y.p) 1 y.b)∧(y5.heap[Oa]? =some (.cells #[.int .i64 0,.int .i64 0,.int .i64 0,.slice none 0 0,.slice none 0 0] 61 (0,0)))∧(Oa<y5.heap.size)∧(y0.heap.size≤Oa)∧(y5.heap[Ob]? =some (.cells #[.int .i64 0,.int .i64 0,.int .i64 0,.slice none 0 0,.slice none 0 0] 61 (0,0)))∧(Ob<y5.heap.size)∧(y0.heap.size≤Ob)∧(Oa≠Ob))
    ·intro Tb9
     apply share_b8 (C:=fun y4 Ob ta1 ta2 te1 te2 tb1 tb2 tf1 tf2 fa fb ja1 ja2 je1 je2 jb1 jb2 jf1 jf2=>(Below y0.heap.size y0 y4)∧(y0.heap.size≤y4.heap.size)∧(SameB [C] y0 y4)∧(y4.ownsRow y0.heap.size 5 1 (.slice ja1 fa.im.length ja2) fa.im.length (bytesV fa.im))∧(y4.ownsRow y0.heap.size 5 1 (.slice je1 fa.ef.length je2) fa.ef.length (bytesV fa.ef))∧(y4.ownsRow y0.heap.size 5 1 (.slice jb1 fb.im.length jb2) fb.im.length (bytesV fb.im))∧(y4.ownsRow y0.heap.size 5 1 (.slice jf1 fb.ef.length jf2) fb.ef.length (bytesV fb.ef))∧(fa=fout (qof x y.p) 0 y.a)∧(fb=fout (qof x y.p) 1 y.b)∧(y4.heap[Ob]? =some (.cells #[.int .i64 0,.int .i64 0,.int .i64 0,.slice none 0 0,.slice none 0 0] 61 (0,0)))∧(Ob<y4.heap.size)∧(y0.heap.size≤Ob))
     ·intro Tb8
      apply share_b7 (C:=fun y4 Oa ta1 ta2 te1 te2 tb1 tb2 tf1 tf2 fa fb ja1 ja2 je1 je2 jb1 jb2 jf1 jf2=>(Below y0.heap.size y0 y4)∧(y0.heap.size≤y4.heap.size)∧(SameB [C] y0 y4)∧(y4.ownsRow y0.heap.size 5 1 (.slice ja1 fa.im.length ja2) fa.im.length (bytesV fa.im))∧(y4.ownsRow y0.heap.size 5 1 (.slice je1 fa.ef.length je2) fa.ef.length (bytesV fa.ef))∧(y4.ownsRow y0.heap.size 5 1 (.slice jb1 fb.im.length jb2) fb.im.length (bytesV fb.im))∧(y4.ownsRow y0.heap.size 5 1 (.slice jf1 fb.ef.length jf2) fb.ef.length (bytesV fb.ef))∧(fa=fout (qof x y.p) 0 y.a)∧(fb=fout (qof x y.p) 1 y.b)∧(y4.heap[Oa]? =some (.cells #[.int .i64 0,.int .i64 0,.int .i64 0,.slice none 0 0,.slice none 0 0] 61 (0,0)))∧(Oa<y4.heap.size)∧(y0.heap.size≤Oa))
      ·intro Tb7
       apply share_b6 (C:=fun y4 Oa Ob ta1 ta2 te1 te2 tb1 tb2 tf1 tf2=>(Below y0.heap.size y0 y4)∧(y0.heap.size≤y4.heap.size)∧(SameB [C] y0 y4)∧(Bytes [] y4 (.slice ta1 y.a.im.length ta2) y.a.im)∧(Bytes [] y4 (.slice te1 y.a.ef.length te2) y.a.ef)∧(Bytes [] y4 (.slice tb1 y.b.im.length tb2) y.b.im)∧(Bytes [] y4 (.slice tf1 y.b.ef.length tf2) y.b.ef)∧(y4.heap[Oa]? =some (.cells #[.int .i64 0,.int .i64 0,.int .i64 0,.slice none 0 0,.slice none 0 0] 61 (0,0)))∧(Oa<y4.heap.size)∧(y0.heap.size≤Oa)∧(y4.heap[Ob]? =some (.cells #[.int .i64 0,.int .i64 0,.int .i64 0,.slice none 0 0,.slice none 0 0] 61 (0,0)))∧(Ob<y4.heap.size)∧(y0.heap.size≤Ob)∧(Oa≠Ob))
       ·intro Tb6
        apply share_b5 (C:=fun y3 Oa Ob ta1 ta2 te1 te2=>(Below y0.heap.size y0 y3)∧(y0.heap.size≤y3.heap.size)∧(SameB [C] y0 y3)∧(Bytes [] y3 (.slice ta1 y.a.im.length ta2) y.a.im)∧(Bytes [] y3 (.slice te1 y.a.ef.length te2) y.a.ef)∧(y3.heap[Oa]? =some (.cells #[.int .i64 0,.int .i64 0,.int .i64 0,.slice none 0 0,.slice none 0 0] 61 (0,0)))∧(Oa<y3.heap.size)∧(y0.heap.size≤Oa)∧(y3.heap[Ob]? =some (.cells #[.int .i64 0,.int .i64 0,.int .i64 0,.slice none 0 0,.slice none 0 0] 61 (0,0)))∧(Ob<y3.heap.size)∧(y0.heap.size≤Ob)∧(Oa≠Ob))
        ·intro Tb5
         apply share_b4 (C:=fun y3 Ob ta1 ta2 te1 te2 tb1 tb2 tf1 tf2=>(Below y0.heap.size y0 y3)∧(y0.heap.size≤y3.heap.size)∧(SameB [C] y0 y3)∧(Bytes [] y3 (.slice ta1 y.a.im.length ta2) y.a.im)∧(Bytes [] y3 (.slice te1 y.a.ef.length te2) y.a.ef)∧(Bytes [] y3 (.slice tb1 y.b.im.length tb2) y.b.im)∧(Bytes [] y3 (.slice tf1 y.b.ef.length tf2) y.b.ef)∧(y3.heap[Ob]? =some (.cells #[.int .i64 0,.int .i64 0,.int .i64 0,.slice none 0 0,.slice none 0 0] 61 (0,0)))∧(Ob<y3.heap.size)∧(y0.heap.size≤Ob))
         ·intro Tb4
          apply share_b3 (C:=fun y3 Oa ta1 ta2 te1 te2 tb1 tb2 tf1 tf2=>(Below y0.heap.size y0 y3)∧(y0.heap.size≤y3.heap.size)∧(SameB [C] y0 y3)∧(Bytes [] y3 (.slice ta1 y.a.im.length ta2) y.a.im)∧(Bytes [] y3 (.slice te1 y.a.ef.length te2) y.a.ef)∧(Bytes [] y3 (.slice tb1 y.b.im.length tb2) y.b.im)∧(Bytes [] y3 (.slice tf1 y.b.ef.length tf2) y.b.ef)∧(y3.heap[Oa]? =some (.cells #[.int .i64 0,.int .i64 0,.int .i64 0,.slice none 0 0,.slice none 0 0] 61 (0,0)))∧(Oa<y3.heap.size)∧(y0.heap.size≤Oa))
          ·intro Tb3
           apply share_b2 (C:=fun y2 Oa Ob=>(Below y0.heap.size y0 y2)∧(y0.heap.size≤y2.heap.size)∧(SameB [C] y0 y2)∧(y2.heap[Oa]? =some (.cells #[.int .i64 0,.int .i64 0,.int .i64 0,.slice none 0 0,.slice none 0 0] 61 (0,0)))∧(Oa<y2.heap.size)∧(y0.heap.size≤Oa)∧(y2.heap[Ob]? =some (.cells #[.int .i64 0,.int .i64 0,.int .i64 0,.slice none 0 0,.slice none 0 0] 61 (0,0)))∧(Ob<y2.heap.size)∧(y0.heap.size≤Ob)∧(Oa≠Ob))
           ·intro Tb2
            apply share_b1 (C:=fun y2 Ob ta1 ta2 te1 te2=>(Below y0.heap.size y0 y2)∧(y0.heap.size≤y2.heap.size)∧(SameB [C] y0 y2)∧(Bytes [] y2 (.slice ta1 y.a.im.length ta2) y.a.im)∧(Bytes [] y2 (.slice te1 y.a.ef.length te2) y.a.ef)∧(y2.heap[Ob]? =some (.cells #[.int .i64 0,.int .i64 0,.int .i64 0,.slice none 0 0,.slice none 0 0] 61 (0,0)))∧(Ob<y2.heap.size)∧(y0.heap.size≤Ob))
            ·intro Tb1
             apply share_b0 (C:=fun y2 Oa ta1 ta2 te1 te2=>(Below y0.heap.size y0 y2)∧(y0.heap.size≤y2.heap.size)∧(SameB [C] y0 y2)∧(Bytes [] y2 (.slice ta1 y.a.im.length ta2) y.a.im)∧(Bytes [] y2 (.slice te1 y.a.ef.length te2) y.a.ef)∧(y2.heap[Oa]? =some (.cells #[.int .i64 0,.int .i64 0,.int .i64 0,.slice none 0 0,.slice none 0 0] 61 (0,0)))∧(Oa<y2.heap.size)∧(y0.heap.size≤Oa))
             ·intro Tb0
              try simp only[pick,Gs,Gz]
              go_wp2_with (first | refine wpList_load_mid rfl 41 _ rfl C 2 rfl [.int .i64 y.p.c,.int .i64 y.p.n,.int .i64 y.p.e,.int .i64 y.p.k,.int .i64 y.p.s,.int .i64 y.p.pl,.int .i64 y.p.m] _ (range_of HC0.out [.int .i64 y.p.c,.int .i64 y.p.n,.int .i64 y.p.e,.int .i64 y.p.k,.int .i64 y.p.s,.int .i64 y.p.pl,.int .i64 y.p.m] rfl) Tryz.underlying41 rfl (by kernel_rfl) ?_ | refine wpList_load_mid rfl 46 _ rfl C 18 rfl [.int .i64 y.a.en,.int .i64 y.a.st,.int .i64 y.a.er,.slice ai y.a.im.length ac,.slice ae y.a.ef.length aec] _ (range_of HC0.out [.int .i64 y.a.en,.int .i64 y.a.st,.int .i64 y.a.er,.slice ai y.a.im.length ac,.slice ae y.a.ef.length aec] rfl) Tryz.underlying46 rfl (by kernel_rfl) ?_ | refine wpList_load_mid rfl 46 _ rfl C 23 rfl [.int .i64 y.b.en,.int .i64 y.b.st,.int .i64 y.b.er,.slice bi y.b.im.length bc,.slice be y.b.ef.length bec] _ (range_of HC0.out [.int .i64 y.b.en,.int .i64 y.b.st,.int .i64 y.b.er,.slice bi y.b.im.length bc,.slice be y.b.ef.length bec] rfl) Tryz.underlying46 rfl (by kernel_rfl) ?_)
              refine Rm ?_
              refine Wa ?_ (Wa ?_ (Wa ?_ Ty.wpTr_no))
              ·try simp only[pick,Gs,Gz]
               go_wp2_with fail
               refine (to_any [] y.a _ _ _ (by omega) (by omega) (Rb HA.out (HU0.out.1.trans (HD0.out.mono HU0.out.1.size))) (Rb HE.out (HU0.out.1.trans (HD0.out.mono HU0.out.1.size)))).mono ?_
               rintro e y1 ⟨ta,te,rfl,o1,o2,hb⟩
               obtain ⟨ta1,ta2,rfl⟩:=Oq o1
               obtain ⟨te1,te2,rfl⟩:=Oq o2
               have HIa1:=Hj (Bytes.row (F:=[]) o1 rfl (fun f hf=>by cases hf))
               have HEa1:=Hj (Bytes.row (F:=[]) o2 rfl (fun f hf=>by cases hf))
               clear o1 o2
               have hzz:=hb.size
               have HD1:=Hj (HD0.out.trans (hb.mono hz0))
               have hz1:y0.heap.size≤y1.heap.size:=HD1.out.size
               have HS1:=Hj (same_below' HS0.out hb)
               clear hzz hb
               go_wp2
               refine Sm (Ss HS1.out) ?_
               try simp only[pick,Gs,Gz]
               go_wp2
               refine Rm ?_
               refine Wa ?_ (Wa ?_ (Wa ?_ Ty.wpTr_no))
               ·try simp only[pick,Gs,Gz]
                go_wp2_with fail
                refine (to_any [] y.b _ _ _ (by omega) (by omega) (Rb HA2.out (HU0.out.1.trans (HD1.out.mono HU0.out.1.size))) (Rb HE2.out (HU0.out.1.trans (HD1.out.mono HU0.out.1.size)))).mono ?_
                rintro e y2 ⟨tb,tf,rfl,o1,o2,hb⟩
                obtain ⟨tb1,tb2,rfl⟩:=Oq o1
                obtain ⟨tf1,tf2,rfl⟩:=Oq o2
                have HIb2:=Hj (Bytes.row (F:=[]) o1 rfl (fun f hf=>by cases hf))
                have HEb2:=Hj (Bytes.row (F:=[]) o2 rfl (fun f hf=>by cases hf))
                clear o1 o2
                have hzz:=hb.size
                have HD2:=Hj (HD1.out.trans (hb.mono hz1))
                have hz2:y0.heap.size≤y2.heap.size:=HD2.out.size
                have HIa2:=Hj (Rb HIa1.out hb)
                have HEa2:=Hj (Rb HEa1.out hb)
                have HS2:=Hj (same_below' HS1.out hb)
                clear hzz hb
                go_wp2
                refine Sm (Ss HS2.out) ?_
                try simp only[pick,Gs,Gz]
                go_wp2
                refine Rm ?_
                refine Wa ?_ (Wa ?_ (Wa ?_ Ty.wpTr_no))
                ·try simp only[pick,Gs,Gz]
                 obtain ⟨base,g,hh,iv,rv,lv,hat⟩:=ULG.at (HU0.out.below HKP.out HD2.out)
                 have HAT:=Hj hat
                 clear hat
                 go_wp2_with fail
                 refine (outcomes_any HAT.out y.p y.a y.b _ _ _ _ (by omega) (by omega) (by omega) (by omega) HIa2.out HEa2.out HIb2.out HEb2.out).mono ?_
                 clear HAT
                 rintro e y3 ⟨fa,fb,ja,je,jb,jf,hfa,hfb,rfl,o1,o2,o3,o4,hb⟩
                 obtain ⟨ja1,ja2,rfl⟩:=Oq o1
                 obtain ⟨je1,je2,rfl⟩:=Oq o2
                 obtain ⟨jb1,jb2,rfl⟩:=Oq o3
                 obtain ⟨jf1,jf2,rfl⟩:=Oq o4
                 have HFA:Hid (fa=fout (qof x y.p) 0 y.a):=Hj hfa
                 have HFB:Hid (fb=fout (qof x y.p) 1 y.b):=Hj hfb
                 have HO13:=Hj (own_base o1 hz2)
                 have HO23:=Hj (own_base o2 hz2)
                 have HO33:=Hj (own_base o3 hz2)
                 have HO43:=Hj (own_base o4 hz2)
                 clear hfa hfb o1 o2 o3 o4
                 have hzz:=hb.size
                 have HD3:=Hj (HD2.out.trans (hb.mono hz2))
                 have hz3:y0.heap.size≤y3.heap.size:=HD3.out.size
                 have HS3:=Hj (same_below' HS2.out hb)
                 clear hzz hb
                 go_wp2
                 refine Sm (Ss HS3.out) ?_
                 try simp only[pick,Gs,Gz]
                 go_wp2
                 refine Rm ?_
                 refine Wa ?_ (Wa ?_ Ty.wpTr_no)
                 ·try simp only[pick,Gs,Gz]
                  go_wp2
                  obtain ⟨Oa,hOa⟩:∃A,A=y3.heap.size:=⟨_,rfl⟩
                  obtain ⟨y4,hw⟩:∃X,X=y3.alloc (.cells #[.int .i64 0,.int .i64 0,.int .i64 0,.slice none 0 0,.slice none 0 0] 61):=⟨_,rfl⟩
                  rw[←hw,←hOa]
                  have hb:Below y3.heap.size y3 y4:=by rw[hw];exact (Br _ _).alloc (Nr _) _
                  have HOa4:Hid (y4.heap[Oa]? =some (.cells #[.int .i64 0,.int .i64 0,.int .i64 0,.slice none 0 0,.slice none 0 0] 61 (0,0))):=Hj (by rw[hw,hOa];exact heap_alloc_new _ _)
                  have hOal4:Oa<y4.heap.size:=(Al HOa4.out)
                  have hOag:y0.heap.size≤Oa:=by omega
                  clear hw hOa
                  have hzz:=hb.size
                  have HD4:=Hj (HD3.out.trans (hb.mono hz3))
                  have hz4:y0.heap.size≤y4.heap.size:=HD4.out.size
                  have HO14:=Hj (own_below HO13.out hb (Nr _))
                  have HO24:=Hj (own_below HO23.out hb (Nr _))
                  have HO34:=Hj (own_below HO33.out hb (Nr _))
                  have HO44:=Hj (own_below HO43.out hb (Nr _))
                  have HS4:=Hj (same_below' HS3.out hb)
                  clear hzz hb
                  refine Sm (Ss HS4.out) ?_
                  try simp only[pick,Gs,Gz]
                  go_wp2
                  refine Rm ?_
                  exact Tb7.out y4 Oa ta1 ta2 te1 te2 tb1 tb2 tf1 tf2 fa fb ja1 ja2 je1 je2 jb1 jb2 jf1 jf2 ⟨HD4.out,hz4,HS4.out,HO14.out,HO24.out,HO34.out,HO44.out,HFA.out,HFB.out,HOa4.out,hOal4,hOag⟩
                 try simp only[pick,Gs,Gz]
                 go_wp2
                 obtain ⟨Ob,hOb⟩:∃A,A=y3.heap.size:=⟨_,rfl⟩
                 obtain ⟨y4,hw⟩:∃X,X=y3.alloc (.cells #[.int .i64 0,.int .i64 0,.int .i64 0,.slice none 0 0,.slice none 0 0] 61):=⟨_,rfl⟩
                 rw[←hw,←hOb]
                 have hb:Below y3.heap.size y3 y4:=by rw[hw];exact (Br _ _).alloc (Nr _) _
                 have HOb4:Hid (y4.heap[Ob]? =some (.cells #[.int .i64 0,.int .i64 0,.int .i64 0,.slice none 0 0,.slice none 0 0] 61 (0,0))):=Hj (by rw[hw,hOb];exact heap_alloc_new _ _)
                 have hObl4:Ob<y4.heap.size:=(Al HOb4.out)
                 have hObg:y0.heap.size≤Ob:=by omega
                 clear hw hOb
                 have hzz:=hb.size
                 have HD4:=Hj (HD3.out.trans (hb.mono hz3))
                 have hz4:y0.heap.size≤y4.heap.size:=HD4.out.size
                 have HO14:=Hj (own_below HO13.out hb (Nr _))
                 have HO24:=Hj (own_below HO23.out hb (Nr _))
                 have HO34:=Hj (own_below HO33.out hb (Nr _))
                 have HO44:=Hj (own_below HO43.out hb (Nr _))
                 have HS4:=Hj (same_below' HS3.out hb)
                 clear hzz hb
                 refine Sm (Ss HS4.out) ?_
                 try simp only[pick,Gs,Gz]
                 go_wp2
                 refine Rm ?_
                 exact Tb8.out y4 Ob ta1 ta2 te1 te2 tb1 tb2 tf1 tf2 fa fb ja1 ja2 je1 je2 jb1 jb2 jf1 jf2 ⟨HD4.out,hz4,HS4.out,HO14.out,HO24.out,HO34.out,HO44.out,HFA.out,HFB.out,HOb4.out,hObl4,hObg⟩
                ·try simp only[pick,Gs,Gz]
                 go_wp2
                 obtain ⟨Oa,hOa⟩:∃A,A=y2.heap.size:=⟨_,rfl⟩
                 obtain ⟨y3,hw⟩:∃X,X=y2.alloc (.cells #[.int .i64 0,.int .i64 0,.int .i64 0,.slice none 0 0,.slice none 0 0] 61):=⟨_,rfl⟩
                 rw[←hw,←hOa]
                 have hb:Below y2.heap.size y2 y3:=by rw[hw];exact (Br _ _).alloc (Nr _) _
                 have HOa3:Hid (y3.heap[Oa]? =some (.cells #[.int .i64 0,.int .i64 0,.int .i64 0,.slice none 0 0,.slice none 0 0] 61 (0,0))):=Hj (by rw[hw,hOa];exact heap_alloc_new _ _)
                 have hOal3:Oa<y3.heap.size:=(Al HOa3.out)
                 have hOag:y0.heap.size≤Oa:=by omega
                 clear hw hOa
                 have hzz:=hb.size
                 have HD3:=Hj (HD2.out.trans (hb.mono hz2))
                 have hz3:y0.heap.size≤y3.heap.size:=HD3.out.size
                 have HIa3:=Hj (Rb HIa2.out hb)
                 have HEa3:=Hj (Rb HEa2.out hb)
                 have HIb3:=Hj (Rb HIb2.out hb)
                 have HEb3:=Hj (Rb HEb2.out hb)
                 have HS3:=Hj (same_below' HS2.out hb)
                 clear hzz hb
                 refine Sm (Ss HS3.out) ?_
                 try simp only[pick,Gs,Gz]
                 go_wp2
                 refine Rm ?_
                 exact Tb3.out y3 Oa ta1 ta2 te1 te2 tb1 tb2 tf1 tf2 ⟨HD3.out,hz3,HS3.out,HIa3.out,HEa3.out,HIb3.out,HEb3.out,HOa3.out,hOal3,hOag⟩
                try simp only[pick,Gs,Gz]
                go_wp2
                obtain ⟨Ob,hOb⟩:∃A,A=y2.heap.size:=⟨_,rfl⟩
                obtain ⟨y3,hw⟩:∃X,X=y2.alloc (.cells #[.int .i64 0,.int .i64 0,.int .i64 0,.slice none 0 0,.slice none 0 0] 61):=⟨_,rfl⟩
                rw[←hw,←hOb]
                have hb:Below y2.heap.size y2 y3:=by rw[hw];exact (Br _ _).alloc (Nr _) _
                have HOb3:Hid (y3.heap[Ob]? =some (.cells #[.int .i64 0,.int .i64 0,.int .i64 0,.slice none 0 0,.slice none 0 0] 61 (0,0))):=Hj (by rw[hw,hOb];exact heap_alloc_new _ _)
                have hObl3:Ob<y3.heap.size:=(Al HOb3.out)
                have hObg:y0.heap.size≤Ob:=by omega
                clear hw hOb
                have hzz:=hb.size
                have HD3:=Hj (HD2.out.trans (hb.mono hz2))
                have hz3:y0.heap.size≤y3.heap.size:=HD3.out.size
                have HIa3:=Hj (Rb HIa2.out hb)
                have HEa3:=Hj (Rb HEa2.out hb)
                have HIb3:=Hj (Rb HIb2.out hb)
                have HEb3:=Hj (Rb HEb2.out hb)
                have HS3:=Hj (same_below' HS2.out hb)
                clear hzz hb
                refine Sm (Ss HS3.out) ?_
                try simp only[pick,Gs,Gz]
                go_wp2
                refine Rm ?_
                exact Tb4.out y3 Ob ta1 ta2 te1 te2 tb1 tb2 tf1 tf2 ⟨HD3.out,hz3,HS3.out,HIa3.out,HEa3.out,HIb3.out,HEb3.out,HOb3.out,hObl3,hObg⟩
               ·try simp only[pick,Gs,Gz]
                go_wp2
                obtain ⟨Oa,hOa⟩:∃A,A=y1.heap.size:=⟨_,rfl⟩
                obtain ⟨y2,hw⟩:∃X,X=y1.alloc (.cells #[.int .i64 0,.int .i64 0,.int .i64 0,.slice none 0 0,.slice none 0 0] 61):=⟨_,rfl⟩
                rw[←hw,←hOa]
                have hb:Below y1.heap.size y1 y2:=by rw[hw];exact (Br _ _).alloc (Nr _) _
                have HOa2:Hid (y2.heap[Oa]? =some (.cells #[.int .i64 0,.int .i64 0,.int .i64 0,.slice none 0 0,.slice none 0 0] 61 (0,0))):=Hj (by rw[hw,hOa];exact heap_alloc_new _ _)
                have hOal2:Oa<y2.heap.size:=(Al HOa2.out)
                have hOag:y0.heap.size≤Oa:=by omega
                clear hw hOa
                have hzz:=hb.size
                have HD2:=Hj (HD1.out.trans (hb.mono hz1))
                have hz2:y0.heap.size≤y2.heap.size:=HD2.out.size
                have HIa2:=Hj (Rb HIa1.out hb)
                have HEa2:=Hj (Rb HEa1.out hb)
                have HS2:=Hj (same_below' HS1.out hb)
                clear hzz hb
                refine Sm (Ss HS2.out) ?_
                try simp only[pick,Gs,Gz]
                go_wp2
                refine Rm ?_
                exact Tb0.out y2 Oa ta1 ta2 te1 te2 ⟨HD2.out,hz2,HS2.out,HIa2.out,HEa2.out,HOa2.out,hOal2,hOag⟩
               try simp only[pick,Gs,Gz]
               go_wp2
               obtain ⟨Ob,hOb⟩:∃A,A=y1.heap.size:=⟨_,rfl⟩
               obtain ⟨y2,hw⟩:∃X,X=y1.alloc (.cells #[.int .i64 0,.int .i64 0,.int .i64 0,.slice none 0 0,.slice none 0 0] 61):=⟨_,rfl⟩
               rw[←hw,←hOb]
               have hb:Below y1.heap.size y1 y2:=by rw[hw];exact (Br _ _).alloc (Nr _) _
               have HOb2:Hid (y2.heap[Ob]? =some (.cells #[.int .i64 0,.int .i64 0,.int .i64 0,.slice none 0 0,.slice none 0 0] 61 (0,0))):=Hj (by rw[hw,hOb];exact heap_alloc_new _ _)
               have hObl2:Ob<y2.heap.size:=(Al HOb2.out)
               have hObg:y0.heap.size≤Ob:=by omega
               clear hw hOb
               have hzz:=hb.size
               have HD2:=Hj (HD1.out.trans (hb.mono hz1))
               have hz2:y0.heap.size≤y2.heap.size:=HD2.out.size
               have HIa2:=Hj (Rb HIa1.out hb)
               have HEa2:=Hj (Rb HEa1.out hb)
               have HS2:=Hj (same_below' HS1.out hb)
               clear hzz hb
               refine Sm (Ss HS2.out) ?_
               try simp only[pick,Gs,Gz]
               go_wp2
               refine Rm ?_
               exact Tb1.out y2 Ob ta1 ta2 te1 te2 ⟨HD2.out,hz2,HS2.out,HIa2.out,HEa2.out,HOb2.out,hObl2,hObg⟩
              ·try simp only[pick,Gs,Gz]
               go_wp2
               obtain ⟨Oa,hOa⟩:∃A,A=y0.heap.size:=⟨_,rfl⟩
               obtain ⟨y1,hw⟩:∃X,X=y0.alloc (.cells #[.int .i64 0,.int .i64 0,.int .i64 0,.slice none 0 0,.slice none 0 0] 61):=⟨_,rfl⟩
               rw[←hw,←hOa]
               have hb:Below y0.heap.size y0 y1:=by rw[hw];exact (Br _ _).alloc (Nr _) _
               have HOa1:Hid (y1.heap[Oa]? =some (.cells #[.int .i64 0,.int .i64 0,.int .i64 0,.slice none 0 0,.slice none 0 0] 61 (0,0))):=Hj (by rw[hw,hOa];exact heap_alloc_new _ _)
               have hOal1:Oa<y1.heap.size:=(Al HOa1.out)
               have hOag:y0.heap.size≤Oa:=by omega
               clear hw hOa
               have hzz:=hb.size
               have HD1:=Hj (HD0.out.trans (hb.mono hz0))
               have hz1:y0.heap.size≤y1.heap.size:=HD1.out.size
               have HS1:=Hj (same_below' HS0.out hb)
               clear hzz hb
               refine Sm (Ss HS1.out) ?_
               try simp only[pick,Gs,Gz]
               go_wp2
               refine Rm ?_
               refine Wa ?_ (Wa ?_ Ty.wpTr_no)
               ·try simp only[pick,Gs,Gz]
                go_wp2_with fail
                refine (to_any [] y.a _ _ _ (by omega) (by omega) (Rb HA.out (HU0.out.1.trans (HD1.out.mono HU0.out.1.size))) (Rb HE.out (HU0.out.1.trans (HD1.out.mono HU0.out.1.size)))).mono ?_
                rintro e y2 ⟨ta,te,rfl,o1,o2,hb⟩
                obtain ⟨ta1,ta2,rfl⟩:=Oq o1
                obtain ⟨te1,te2,rfl⟩:=Oq o2
                have HIa2:=Hj (Bytes.row (F:=[]) o1 rfl (fun f hf=>by cases hf))
                have HEa2:=Hj (Bytes.row (F:=[]) o2 rfl (fun f hf=>by cases hf))
                clear o1 o2
                have hzz:=hb.size
                have HD2:=Hj (HD1.out.trans (hb.mono hz1))
                have hz2:y0.heap.size≤y2.heap.size:=HD2.out.size
                have HOa2:=Hj ((hb.block Oa hOal1).trans HOa1.out)
                have hOal2:Oa<y2.heap.size:=by omega
                have HS2:=Hj (same_below' HS1.out hb)
                clear hzz hb
                go_wp2
                refine Sm (Ss HS2.out) ?_
                try simp only[pick,Gs,Gz]
                go_wp2
                refine Rm ?_
                exact Tb0.out y2 Oa ta1 ta2 te1 te2 ⟨HD2.out,hz2,HS2.out,HIa2.out,HEa2.out,HOa2.out,hOal2,hOag⟩
               try simp only[pick,Gs,Gz]
               go_wp2
               obtain ⟨Ob,hOb⟩:∃A,A=y1.heap.size:=⟨_,rfl⟩
               obtain ⟨y2,hw⟩:∃X,X=y1.alloc (.cells #[.int .i64 0,.int .i64 0,.int .i64 0,.slice none 0 0,.slice none 0 0] 61):=⟨_,rfl⟩
               rw[←hw,←hOb]
               have hb:Below y1.heap.size y1 y2:=by rw[hw];exact (Br _ _).alloc (Nr _) _
               have HOb2:Hid (y2.heap[Ob]? =some (.cells #[.int .i64 0,.int .i64 0,.int .i64 0,.slice none 0 0,.slice none 0 0] 61 (0,0))):=Hj (by rw[hw,hOb];exact heap_alloc_new _ _)
               have hObl2:Ob<y2.heap.size:=(Al HOb2.out)
               have hObg:y0.heap.size≤Ob:=by omega
               have hOab:Oa≠Ob:=by omega
               clear hw hOb
               have hzz:=hb.size
               have HD2:=Hj (HD1.out.trans (hb.mono hz1))
               have hz2:y0.heap.size≤y2.heap.size:=HD2.out.size
               have HOa2:=Hj ((hb.block Oa hOal1).trans HOa1.out)
               have hOal2:Oa<y2.heap.size:=by omega
               have HS2:=Hj (same_below' HS1.out hb)
               clear hzz hb
               refine Sm (Ss HS2.out) ?_
               try simp only[pick,Gs,Gz]
               go_wp2
               refine Rm ?_
               exact Tb2.out y2 Oa Ob ⟨HD2.out,hz2,HS2.out,HOa2.out,hOal2,hOag,HOb2.out,hObl2,hObg,hOab⟩
              try simp only[pick,Gs,Gz]
              go_wp2
              obtain ⟨Ob,hOb⟩:∃A,A=y0.heap.size:=⟨_,rfl⟩
              obtain ⟨y1,hw⟩:∃X,X=y0.alloc (.cells #[.int .i64 0,.int .i64 0,.int .i64 0,.slice none 0 0,.slice none 0 0] 61):=⟨_,rfl⟩
              rw[←hw,←hOb]
              have hb:Below y0.heap.size y0 y1:=by rw[hw];exact (Br _ _).alloc (Nr _) _
              have HOb1:Hid (y1.heap[Ob]? =some (.cells #[.int .i64 0,.int .i64 0,.int .i64 0,.slice none 0 0,.slice none 0 0] 61 (0,0))):=Hj (by rw[hw,hOb];exact heap_alloc_new _ _)
              have hObl1:Ob<y1.heap.size:=(Al HOb1.out)
              have hObg:y0.heap.size≤Ob:=by omega
              clear hw hOb
              have hzz:=hb.size
              have HD1:=Hj (HD0.out.trans (hb.mono hz0))
              have hz1:y0.heap.size≤y1.heap.size:=HD1.out.size
              have HS1:=Hj (same_below' HS0.out hb)
              clear hzz hb
              refine Sm (Ss HS1.out) ?_
              try simp only[pick,Gs,Gz]
              go_wp2
              refine Rm ?_
              refine Wa ?_ (Wa ?_ Ty.wpTr_no)
              ·try simp only[pick,Gs,Gz]
               go_wp2_with fail
               refine (to_any [] y.a _ _ _ (by omega) (by omega) (Rb HA.out (HU0.out.1.trans (HD1.out.mono HU0.out.1.size))) (Rb HE.out (HU0.out.1.trans (HD1.out.mono HU0.out.1.size)))).mono ?_
               rintro e y2 ⟨ta,te,rfl,o1,o2,hb⟩
               obtain ⟨ta1,ta2,rfl⟩:=Oq o1
               obtain ⟨te1,te2,rfl⟩:=Oq o2
               have HIa2:=Hj (Bytes.row (F:=[]) o1 rfl (fun f hf=>by cases hf))
               have HEa2:=Hj (Bytes.row (F:=[]) o2 rfl (fun f hf=>by cases hf))
               clear o1 o2
               have hzz:=hb.size
               have HD2:=Hj (HD1.out.trans (hb.mono hz1))
               have hz2:y0.heap.size≤y2.heap.size:=HD2.out.size
               have HOb2:=Hj ((hb.block Ob hObl1).trans HOb1.out)
               have hObl2:Ob<y2.heap.size:=by omega
               have HS2:=Hj (same_below' HS1.out hb)
               clear hzz hb
               go_wp2
               refine Sm (Ss HS2.out) ?_
               try simp only[pick,Gs,Gz]
               go_wp2
               refine Rm ?_
               exact Tb1.out y2 Ob ta1 ta2 te1 te2 ⟨HD2.out,hz2,HS2.out,HIa2.out,HEa2.out,HOb2.out,hObl2,hObg⟩
              try simp only[pick,Gs,Gz]
              go_wp2
              obtain ⟨Oa,hOa⟩:∃A,A=y1.heap.size:=⟨_,rfl⟩
              obtain ⟨y2,hw⟩:∃X,X=y1.alloc (.cells #[.int .i64 0,.int .i64 0,.int .i64 0,.slice none 0 0,.slice none 0 0] 61):=⟨_,rfl⟩
              rw[←hw,←hOa]
              have hb:Below y1.heap.size y1 y2:=by rw[hw];exact (Br _ _).alloc (Nr _) _
              have HOa2:Hid (y2.heap[Oa]? =some (.cells #[.int .i64 0,.int .i64 0,.int .i64 0,.slice none 0 0,.slice none 0 0] 61 (0,0))):=Hj (by rw[hw,hOa];exact heap_alloc_new _ _)
              have hOal2:Oa<y2.heap.size:=(Al HOa2.out)
              have hOag:y0.heap.size≤Oa:=by omega
              have hOab:Oa≠Ob:=by omega
              clear hw hOa
              have hzz:=hb.size
              have HD2:=Hj (HD1.out.trans (hb.mono hz1))
              have hz2:y0.heap.size≤y2.heap.size:=HD2.out.size
              have HOb2:=Hj ((hb.block Ob hObl1).trans HOb1.out)
              have hObl2:Ob<y2.heap.size:=by omega
              have HS2:=Hj (same_below' HS1.out hb)
              clear hzz hb
              refine Sm (Ss HS2.out) ?_
              try simp only[pick,Gs,Gz]
              go_wp2
              refine Rm ?_
              exact Tb2.out y2 Oa Ob ⟨HD2.out,hz2,HS2.out,HOa2.out,hOal2,hOag,HOb2.out,hObl2,hObg,hOab⟩
             rintro y2 Oa ta1 ta2 te1 te2 ⟨qHD2,hz2,qHS2,qHIa2,qHEa2,qHOa2,hOal2,hOag⟩
             have HD2:=Hj qHD2
             have HS2:=Hj qHS2
             have HIa2:=Hj qHIa2
             have HEa2:=Hj qHEa2
             have HOa2:=Hj qHOa2
             clear qHD2 qHS2 qHIa2 qHEa2 qHOa2
             refine Wa ?_ (Wa ?_ Ty.wpTr_no)
             ·try simp only[pick,Gs,Gz]
              go_wp2_with fail
              refine (to_any [] y.b _ _ _ (by omega) (by omega) (Rb HA2.out (HU0.out.1.trans (HD2.out.mono HU0.out.1.size))) (Rb HE2.out (HU0.out.1.trans (HD2.out.mono HU0.out.1.size)))).mono ?_
              rintro e y3 ⟨tb,tf,rfl,o1,o2,hb⟩
              obtain ⟨tb1,tb2,rfl⟩:=Oq o1
              obtain ⟨tf1,tf2,rfl⟩:=Oq o2
              have HIb3:=Hj (Bytes.row (F:=[]) o1 rfl (fun f hf=>by cases hf))
              have HEb3:=Hj (Bytes.row (F:=[]) o2 rfl (fun f hf=>by cases hf))
              clear o1 o2
              have hzz:=hb.size
              have HD3:=Hj (HD2.out.trans (hb.mono hz2))
              have hz3:y0.heap.size≤y3.heap.size:=HD3.out.size
              have HIa3:=Hj (Rb HIa2.out hb)
              have HEa3:=Hj (Rb HEa2.out hb)
              have HOa3:=Hj ((hb.block Oa hOal2).trans HOa2.out)
              have hOal3:Oa<y3.heap.size:=by omega
              have HS3:=Hj (same_below' HS2.out hb)
              clear hzz hb
              go_wp2
              refine Sm (Ss HS3.out) ?_
              try simp only[pick,Gs,Gz]
              go_wp2
              refine Rm ?_
              exact Tb3.out y3 Oa ta1 ta2 te1 te2 tb1 tb2 tf1 tf2 ⟨HD3.out,hz3,HS3.out,HIa3.out,HEa3.out,HIb3.out,HEb3.out,HOa3.out,hOal3,hOag⟩
             try simp only[pick,Gs,Gz]
             go_wp2
             obtain ⟨Ob,hOb⟩:∃A,A=y2.heap.size:=⟨_,rfl⟩
             obtain ⟨y3,hw⟩:∃X,X=y2.alloc (.cells #[.int .i64 0,.int .i64 0,.int .i64 0,.slice none 0 0,.slice none 0 0] 61):=⟨_,rfl⟩
             rw[←hw,←hOb]
             have hb:Below y2.heap.size y2 y3:=by rw[hw];exact (Br _ _).alloc (Nr _) _
             have HOb3:Hid (y3.heap[Ob]? =some (.cells #[.int .i64 0,.int .i64 0,.int .i64 0,.slice none 0 0,.slice none 0 0] 61 (0,0))):=Hj (by rw[hw,hOb];exact heap_alloc_new _ _)
             have hObl3:Ob<y3.heap.size:=(Al HOb3.out)
             have hObg:y0.heap.size≤Ob:=by omega
             have hOab:Oa≠Ob:=by omega
             clear hw hOb
             have hzz:=hb.size
             have HD3:=Hj (HD2.out.trans (hb.mono hz2))
             have hz3:y0.heap.size≤y3.heap.size:=HD3.out.size
             have HIa3:=Hj (Rb HIa2.out hb)
             have HEa3:=Hj (Rb HEa2.out hb)
             have HOa3:=Hj ((hb.block Oa hOal2).trans HOa2.out)
             have hOal3:Oa<y3.heap.size:=by omega
             have HS3:=Hj (same_below' HS2.out hb)
             clear hzz hb
             refine Sm (Ss HS3.out) ?_
             try simp only[pick,Gs,Gz]
             go_wp2
             refine Rm ?_
             exact Tb5.out y3 Oa Ob ta1 ta2 te1 te2 ⟨HD3.out,hz3,HS3.out,HIa3.out,HEa3.out,HOa3.out,hOal3,hOag,HOb3.out,hObl3,hObg,hOab⟩
            rintro y2 Ob ta1 ta2 te1 te2 ⟨qHD2,hz2,qHS2,qHIa2,qHEa2,qHOb2,hObl2,hObg⟩
            have HD2:=Hj qHD2
            have HS2:=Hj qHS2
            have HIa2:=Hj qHIa2
            have HEa2:=Hj qHEa2
            have HOb2:=Hj qHOb2
            clear qHD2 qHS2 qHIa2 qHEa2 qHOb2
            refine Wa ?_ (Wa ?_ Ty.wpTr_no)
            ·try simp only[pick,Gs,Gz]
             go_wp2_with fail
             refine (to_any [] y.b _ _ _ (by omega) (by omega) (Rb HA2.out (HU0.out.1.trans (HD2.out.mono HU0.out.1.size))) (Rb HE2.out (HU0.out.1.trans (HD2.out.mono HU0.out.1.size)))).mono ?_
             rintro e y3 ⟨tb,tf,rfl,o1,o2,hb⟩
             obtain ⟨tb1,tb2,rfl⟩:=Oq o1
             obtain ⟨tf1,tf2,rfl⟩:=Oq o2
             have HIb3:=Hj (Bytes.row (F:=[]) o1 rfl (fun f hf=>by cases hf))
             have HEb3:=Hj (Bytes.row (F:=[]) o2 rfl (fun f hf=>by cases hf))
             clear o1 o2
             have hzz:=hb.size
             have HD3:=Hj (HD2.out.trans (hb.mono hz2))
             have hz3:y0.heap.size≤y3.heap.size:=HD3.out.size
             have HIa3:=Hj (Rb HIa2.out hb)
             have HEa3:=Hj (Rb HEa2.out hb)
             have HOb3:=Hj ((hb.block Ob hObl2).trans HOb2.out)
             have hObl3:Ob<y3.heap.size:=by omega
             have HS3:=Hj (same_below' HS2.out hb)
             clear hzz hb
             go_wp2
             refine Sm (Ss HS3.out) ?_
             try simp only[pick,Gs,Gz]
             go_wp2
             refine Rm ?_
             exact Tb4.out y3 Ob ta1 ta2 te1 te2 tb1 tb2 tf1 tf2 ⟨HD3.out,hz3,HS3.out,HIa3.out,HEa3.out,HIb3.out,HEb3.out,HOb3.out,hObl3,hObg⟩
            try simp only[pick,Gs,Gz]
            go_wp2
            obtain ⟨Oa,hOa⟩:∃A,A=y2.heap.size:=⟨_,rfl⟩
            obtain ⟨y3,hw⟩:∃X,X=y2.alloc (.cells #[.int .i64 0,.int .i64 0,.int .i64 0,.slice none 0 0,.slice none 0 0] 61):=⟨_,rfl⟩
            rw[←hw,←hOa]
            have hb:Below y2.heap.size y2 y3:=by rw[hw];exact (Br _ _).alloc (Nr _) _
            have HOa3:Hid (y3.heap[Oa]? =some (.cells #[.int .i64 0,.int .i64 0,.int .i64 0,.slice none 0 0,.slice none 0 0] 61 (0,0))):=Hj (by rw[hw,hOa];exact heap_alloc_new _ _)
            have hOal3:Oa<y3.heap.size:=(Al HOa3.out)
            have hOag:y0.heap.size≤Oa:=by omega
            have hOab:Oa≠Ob:=by omega
            clear hw hOa
            have hzz:=hb.size
            have HD3:=Hj (HD2.out.trans (hb.mono hz2))
            have hz3:y0.heap.size≤y3.heap.size:=HD3.out.size
            have HIa3:=Hj (Rb HIa2.out hb)
            have HEa3:=Hj (Rb HEa2.out hb)
            have HOb3:=Hj ((hb.block Ob hObl2).trans HOb2.out)
            have hObl3:Ob<y3.heap.size:=by omega
            have HS3:=Hj (same_below' HS2.out hb)
            clear hzz hb
            refine Sm (Ss HS3.out) ?_
            try simp only[pick,Gs,Gz]
            go_wp2
            refine Rm ?_
            exact Tb5.out y3 Oa Ob ta1 ta2 te1 te2 ⟨HD3.out,hz3,HS3.out,HIa3.out,HEa3.out,HOa3.out,hOal3,hOag,HOb3.out,hObl3,hObg,hOab⟩
           rintro y2 Oa Ob ⟨qHD2,hz2,qHS2,qHOa2,hOal2,hOag,qHOb2,hObl2,hObg,hOab⟩
           have HD2:=Hj qHD2
           have HS2:=Hj qHS2
           have HOa2:=Hj qHOa2
           have HOb2:=Hj qHOb2
           clear qHD2 qHS2 qHOa2 qHOb2
           refine Wq ?_
           try simp only[pick,Gs,Gz]
           go_wp2_with fail
           refine (to_any [] y.a _ _ _ (by omega) (by omega) (Rb HA.out (HU0.out.1.trans (HD2.out.mono HU0.out.1.size))) (Rb HE.out (HU0.out.1.trans (HD2.out.mono HU0.out.1.size)))).mono ?_
           rintro e y3 ⟨ta,te,rfl,o1,o2,hb⟩
           obtain ⟨ta1,ta2,rfl⟩:=Oq o1
           obtain ⟨te1,te2,rfl⟩:=Oq o2
           have HIa3:=Hj (Bytes.row (F:=[]) o1 rfl (fun f hf=>by cases hf))
           have HEa3:=Hj (Bytes.row (F:=[]) o2 rfl (fun f hf=>by cases hf))
           clear o1 o2
           have hzz:=hb.size
           have HD3:=Hj (HD2.out.trans (hb.mono hz2))
           have hz3:y0.heap.size≤y3.heap.size:=HD3.out.size
           have HOa3:=Hj ((hb.block Oa hOal2).trans HOa2.out)
           have hOal3:Oa<y3.heap.size:=by omega
           have HOb3:=Hj ((hb.block Ob hObl2).trans HOb2.out)
           have hObl3:Ob<y3.heap.size:=by omega
           have HS3:=Hj (same_below' HS2.out hb)
           clear hzz hb
           go_wp2
           refine Sm (Ss HS3.out) ?_
           try simp only[pick,Gs,Gz]
           go_wp2
           refine Rm ?_
           exact Tb5.out y3 Oa Ob ta1 ta2 te1 te2 ⟨HD3.out,hz3,HS3.out,HIa3.out,HEa3.out,HOa3.out,hOal3,hOag,HOb3.out,hObl3,hObg,hOab⟩
          rintro y3 Oa ta1 ta2 te1 te2 tb1 tb2 tf1 tf2 ⟨qHD3,hz3,qHS3,qHIa3,qHEa3,qHIb3,qHEb3,qHOa3,hOal3,hOag⟩
          have HD3:=Hj qHD3
          have HS3:=Hj qHS3
          have HIa3:=Hj qHIa3
          have HEa3:=Hj qHEa3
          have HIb3:=Hj qHIb3
          have HEb3:=Hj qHEb3
          have HOa3:=Hj qHOa3
          clear qHD3 qHS3 qHIa3 qHEa3 qHIb3 qHEb3 qHOa3
          refine Wa ?_ (Wa ?_ Ty.wpTr_no)
          ·try simp only[pick,Gs,Gz]
           obtain ⟨base,g,hh,iv,rv,lv,hat⟩:=ULG.at (HU0.out.below HKP.out HD3.out)
           have HAT:=Hj hat
           clear hat
           go_wp2_with fail
           refine (outcomes_any HAT.out y.p y.a y.b _ _ _ _ (by omega) (by omega) (by omega) (by omega) HIa3.out HEa3.out HIb3.out HEb3.out).mono ?_
           clear HAT
           rintro e y4 ⟨fa,fb,ja,je,jb,jf,hfa,hfb,rfl,o1,o2,o3,o4,hb⟩
           obtain ⟨ja1,ja2,rfl⟩:=Oq o1
           obtain ⟨je1,je2,rfl⟩:=Oq o2
           obtain ⟨jb1,jb2,rfl⟩:=Oq o3
           obtain ⟨jf1,jf2,rfl⟩:=Oq o4
           have HFA:Hid (fa=fout (qof x y.p) 0 y.a):=Hj hfa
           have HFB:Hid (fb=fout (qof x y.p) 1 y.b):=Hj hfb
           have HO14:=Hj (own_base o1 hz3)
           have HO24:=Hj (own_base o2 hz3)
           have HO34:=Hj (own_base o3 hz3)
           have HO44:=Hj (own_base o4 hz3)
           clear hfa hfb o1 o2 o3 o4
           have hzz:=hb.size
           have HD4:=Hj (HD3.out.trans (hb.mono hz3))
           have hz4:y0.heap.size≤y4.heap.size:=HD4.out.size
           have HOa4:=Hj ((hb.block Oa hOal3).trans HOa3.out)
           have hOal4:Oa<y4.heap.size:=by omega
           have HS4:=Hj (same_below' HS3.out hb)
           clear hzz hb
           go_wp2
           refine Sm (Ss HS4.out) ?_
           try simp only[pick,Gs,Gz]
           go_wp2
           refine Rm ?_
           exact Tb7.out y4 Oa ta1 ta2 te1 te2 tb1 tb2 tf1 tf2 fa fb ja1 ja2 je1 je2 jb1 jb2 jf1 jf2 ⟨HD4.out,hz4,HS4.out,HO14.out,HO24.out,HO34.out,HO44.out,HFA.out,HFB.out,HOa4.out,hOal4,hOag⟩
          try simp only[pick,Gs,Gz]
          go_wp2
          obtain ⟨Ob,hOb⟩:∃A,A=y3.heap.size:=⟨_,rfl⟩
          obtain ⟨y4,hw⟩:∃X,X=y3.alloc (.cells #[.int .i64 0,.int .i64 0,.int .i64 0,.slice none 0 0,.slice none 0 0] 61):=⟨_,rfl⟩
          rw[←hw,←hOb]
          have hb:Below y3.heap.size y3 y4:=by rw[hw];exact (Br _ _).alloc (Nr _) _
          have HOb4:Hid (y4.heap[Ob]? =some (.cells #[.int .i64 0,.int .i64 0,.int .i64 0,.slice none 0 0,.slice none 0 0] 61 (0,0))):=Hj (by rw[hw,hOb];exact heap_alloc_new _ _)
          have hObl4:Ob<y4.heap.size:=(Al HOb4.out)
          have hObg:y0.heap.size≤Ob:=by omega
          have hOab:Oa≠Ob:=by omega
          clear hw hOb
          have hzz:=hb.size
          have HD4:=Hj (HD3.out.trans (hb.mono hz3))
          have hz4:y0.heap.size≤y4.heap.size:=HD4.out.size
          have HIa4:=Hj (Rb HIa3.out hb)
          have HEa4:=Hj (Rb HEa3.out hb)
          have HIb4:=Hj (Rb HIb3.out hb)
          have HEb4:=Hj (Rb HEb3.out hb)
          have HOa4:=Hj ((hb.block Oa hOal3).trans HOa3.out)
          have hOal4:Oa<y4.heap.size:=by omega
          have HS4:=Hj (same_below' HS3.out hb)
          clear hzz hb
          refine Sm (Ss HS4.out) ?_
          try simp only[pick,Gs,Gz]
          go_wp2
          refine Rm ?_
          exact Tb6.out y4 Oa Ob ta1 ta2 te1 te2 tb1 tb2 tf1 tf2 ⟨HD4.out,hz4,HS4.out,HIa4.out,HEa4.out,HIb4.out,HEb4.out,HOa4.out,hOal4,hOag,HOb4.out,hObl4,hObg,hOab⟩
         rintro y3 Ob ta1 ta2 te1 te2 tb1 tb2 tf1 tf2 ⟨qHD3,hz3,qHS3,qHIa3,qHEa3,qHIb3,qHEb3,qHOb3,hObl3,hObg⟩
         have HD3:=Hj qHD3
         have HS3:=Hj qHS3
         have HIa3:=Hj qHIa3
         have HEa3:=Hj qHEa3
         have HIb3:=Hj qHIb3
         have HEb3:=Hj qHEb3
         have HOb3:=Hj qHOb3
         clear qHD3 qHS3 qHIa3 qHEa3 qHIb3 qHEb3 qHOb3
         refine Wa ?_ (Wa ?_ Ty.wpTr_no)
         ·try simp only[pick,Gs,Gz]
          obtain ⟨base,g,hh,iv,rv,lv,hat⟩:=ULG.at (HU0.out.below HKP.out HD3.out)
          have HAT:=Hj hat
          clear hat
          go_wp2_with fail
          refine (outcomes_any HAT.out y.p y.a y.b _ _ _ _ (by omega) (by omega) (by omega) (by omega) HIa3.out HEa3.out HIb3.out HEb3.out).mono ?_
          clear HAT
          rintro e y4 ⟨fa,fb,ja,je,jb,jf,hfa,hfb,rfl,o1,o2,o3,o4,hb⟩
          obtain ⟨ja1,ja2,rfl⟩:=Oq o1
          obtain ⟨je1,je2,rfl⟩:=Oq o2
          obtain ⟨jb1,jb2,rfl⟩:=Oq o3
          obtain ⟨jf1,jf2,rfl⟩:=Oq o4
          have HFA:Hid (fa=fout (qof x y.p) 0 y.a):=Hj hfa
          have HFB:Hid (fb=fout (qof x y.p) 1 y.b):=Hj hfb
          have HO14:=Hj (own_base o1 hz3)
          have HO24:=Hj (own_base o2 hz3)
          have HO34:=Hj (own_base o3 hz3)
          have HO44:=Hj (own_base o4 hz3)
          clear hfa hfb o1 o2 o3 o4
          have hzz:=hb.size
          have HD4:=Hj (HD3.out.trans (hb.mono hz3))
          have hz4:y0.heap.size≤y4.heap.size:=HD4.out.size
          have HOb4:=Hj ((hb.block Ob hObl3).trans HOb3.out)
          have hObl4:Ob<y4.heap.size:=by omega
          have HS4:=Hj (same_below' HS3.out hb)
          clear hzz hb
          go_wp2
          refine Sm (Ss HS4.out) ?_
          try simp only[pick,Gs,Gz]
          go_wp2
          refine Rm ?_
          exact Tb8.out y4 Ob ta1 ta2 te1 te2 tb1 tb2 tf1 tf2 fa fb ja1 ja2 je1 je2 jb1 jb2 jf1 jf2 ⟨HD4.out,hz4,HS4.out,HO14.out,HO24.out,HO34.out,HO44.out,HFA.out,HFB.out,HOb4.out,hObl4,hObg⟩
         try simp only[pick,Gs,Gz]
         go_wp2
         obtain ⟨Oa,hOa⟩:∃A,A=y3.heap.size:=⟨_,rfl⟩
         obtain ⟨y4,hw⟩:∃X,X=y3.alloc (.cells #[.int .i64 0,.int .i64 0,.int .i64 0,.slice none 0 0,.slice none 0 0] 61):=⟨_,rfl⟩
         rw[←hw,←hOa]
         have hb:Below y3.heap.size y3 y4:=by rw[hw];exact (Br _ _).alloc (Nr _) _
         have HOa4:Hid (y4.heap[Oa]? =some (.cells #[.int .i64 0,.int .i64 0,.int .i64 0,.slice none 0 0,.slice none 0 0] 61 (0,0))):=Hj (by rw[hw,hOa];exact heap_alloc_new _ _)
         have hOal4:Oa<y4.heap.size:=(Al HOa4.out)
         have hOag:y0.heap.size≤Oa:=by omega
         have hOab:Oa≠Ob:=by omega
         clear hw hOa
         have hzz:=hb.size
         have HD4:=Hj (HD3.out.trans (hb.mono hz3))
         have hz4:y0.heap.size≤y4.heap.size:=HD4.out.size
         have HIa4:=Hj (Rb HIa3.out hb)
         have HEa4:=Hj (Rb HEa3.out hb)
         have HIb4:=Hj (Rb HIb3.out hb)
         have HEb4:=Hj (Rb HEb3.out hb)
         have HOb4:=Hj ((hb.block Ob hObl3).trans HOb3.out)
         have hObl4:Ob<y4.heap.size:=by omega
         have HS4:=Hj (same_below' HS3.out hb)
         clear hzz hb
         refine Sm (Ss HS4.out) ?_
         try simp only[pick,Gs,Gz]
         go_wp2
         refine Rm ?_
         exact Tb6.out y4 Oa Ob ta1 ta2 te1 te2 tb1 tb2 tf1 tf2 ⟨HD4.out,hz4,HS4.out,HIa4.out,HEa4.out,HIb4.out,HEb4.out,HOa4.out,hOal4,hOag,HOb4.out,hObl4,hObg,hOab⟩
        rintro y3 Oa Ob ta1 ta2 te1 te2 ⟨qHD3,hz3,qHS3,qHIa3,qHEa3,qHOa3,hOal3,hOag,qHOb3,hObl3,hObg,hOab⟩
        have HD3:=Hj qHD3
        have HS3:=Hj qHS3
        have HIa3:=Hj qHIa3
        have HEa3:=Hj qHEa3
        have HOa3:=Hj qHOa3
        have HOb3:=Hj qHOb3
        clear qHD3 qHS3 qHIa3 qHEa3 qHOa3 qHOb3
        refine Wq ?_
        try simp only[pick,Gs,Gz]
        go_wp2_with fail
        refine (to_any [] y.b _ _ _ (by omega) (by omega) (Rb HA2.out (HU0.out.1.trans (HD3.out.mono HU0.out.1.size))) (Rb HE2.out (HU0.out.1.trans (HD3.out.mono HU0.out.1.size)))).mono ?_
        rintro e y4 ⟨tb,tf,rfl,o1,o2,hb⟩
        obtain ⟨tb1,tb2,rfl⟩:=Oq o1
        obtain ⟨tf1,tf2,rfl⟩:=Oq o2
        have HIb4:=Hj (Bytes.row (F:=[]) o1 rfl (fun f hf=>by cases hf))
        have HEb4:=Hj (Bytes.row (F:=[]) o2 rfl (fun f hf=>by cases hf))
        clear o1 o2
        have hzz:=hb.size
        have HD4:=Hj (HD3.out.trans (hb.mono hz3))
        have hz4:y0.heap.size≤y4.heap.size:=HD4.out.size
        have HIa4:=Hj (Rb HIa3.out hb)
        have HEa4:=Hj (Rb HEa3.out hb)
        have HOa4:=Hj ((hb.block Oa hOal3).trans HOa3.out)
        have hOal4:Oa<y4.heap.size:=by omega
        have HOb4:=Hj ((hb.block Ob hObl3).trans HOb3.out)
        have hObl4:Ob<y4.heap.size:=by omega
        have HS4:=Hj (same_below' HS3.out hb)
        clear hzz hb
        go_wp2
        refine Sm (Ss HS4.out) ?_
        try simp only[pick,Gs,Gz]
        go_wp2
        refine Rm ?_
        exact Tb6.out y4 Oa Ob ta1 ta2 te1 te2 tb1 tb2 tf1 tf2 ⟨HD4.out,hz4,HS4.out,HIa4.out,HEa4.out,HIb4.out,HEb4.out,HOa4.out,hOal4,hOag,HOb4.out,hObl4,hObg,hOab⟩
       rintro y4 Oa Ob ta1 ta2 te1 te2 tb1 tb2 tf1 tf2 ⟨qHD4,hz4,qHS4,qHIa4,qHEa4,qHIb4,qHEb4,qHOa4,hOal4,hOag,qHOb4,hObl4,hObg,hOab⟩
       have HD4:=Hj qHD4
       have HS4:=Hj qHS4
       have HIa4:=Hj qHIa4
       have HEa4:=Hj qHEa4
       have HIb4:=Hj qHIb4
       have HEb4:=Hj qHEb4
       have HOa4:=Hj qHOa4
       have HOb4:=Hj qHOb4
       clear qHD4 qHS4 qHIa4 qHEa4 qHIb4 qHEb4 qHOa4 qHOb4
       refine Wq ?_
       try simp only[pick,Gs,Gz]
       obtain ⟨base,g,hh,iv,rv,lv,hat⟩:=ULG.at (HU0.out.below HKP.out HD4.out)
       have HAT:=Hj hat
       clear hat
       go_wp2_with fail
       refine (outcomes_any HAT.out y.p y.a y.b _ _ _ _ (by omega) (by omega) (by omega) (by omega) HIa4.out HEa4.out HIb4.out HEb4.out).mono ?_
       clear HAT
       rintro e y5 ⟨fa,fb,ja,je,jb,jf,hfa,hfb,rfl,o1,o2,o3,o4,hb⟩
       obtain ⟨ja1,ja2,rfl⟩:=Oq o1
       obtain ⟨je1,je2,rfl⟩:=Oq o2
       obtain ⟨jb1,jb2,rfl⟩:=Oq o3
       obtain ⟨jf1,jf2,rfl⟩:=Oq o4
       have HFA:Hid (fa=fout (qof x y.p) 0 y.a):=Hj hfa
       have HFB:Hid (fb=fout (qof x y.p) 1 y.b):=Hj hfb
       have HO15:=Hj (own_base o1 hz4)
       have HO25:=Hj (own_base o2 hz4)
       have HO35:=Hj (own_base o3 hz4)
       have HO45:=Hj (own_base o4 hz4)
       clear hfa hfb o1 o2 o3 o4
       have hzz:=hb.size
       have HD5:=Hj (HD4.out.trans (hb.mono hz4))
       have hz5:y0.heap.size≤y5.heap.size:=HD5.out.size
       have HOa5:=Hj ((hb.block Oa hOal4).trans HOa4.out)
       have hOal5:Oa<y5.heap.size:=by omega
       have HOb5:=Hj ((hb.block Ob hObl4).trans HOb4.out)
       have hObl5:Ob<y5.heap.size:=by omega
       have HS5:=Hj (same_below' HS4.out hb)
       clear hzz hb
       go_wp2
       refine Sm (Ss HS5.out) ?_
       try simp only[pick,Gs,Gz]
       go_wp2
       refine Rm ?_
       exact Tb9.out y5 Oa Ob ta1 ta2 te1 te2 tb1 tb2 tf1 tf2 fa fb ja1 ja2 je1 je2 jb1 jb2 jf1 jf2 ⟨HD5.out,hz5,HS5.out,HO15.out,HO25.out,HO35.out,HO45.out,HFA.out,HFB.out,HOa5.out,hOal5,hOag,HOb5.out,hObl5,hObg,hOab⟩
      rintro y4 Oa ta1 ta2 te1 te2 tb1 tb2 tf1 tf2 fa fb ja1 ja2 je1 je2 jb1 jb2 jf1 jf2 ⟨qHD4,hz4,qHS4,qHO14,qHO24,qHO34,qHO44,qHFA,qHFB,qHOa4,hOal4,hOag⟩
      have HD4:=Hj qHD4
      have HS4:=Hj qHS4
      have HO14:=Hj qHO14
      have HO24:=Hj qHO24
      have HO34:=Hj qHO34
      have HO44:=Hj qHO44
      have HFA:=Hj qHFA
      have HFB:=Hj qHFB
      have HOa4:=Hj qHOa4
      clear qHD4 qHS4 qHO14 qHO24 qHO34 qHO44 qHFA qHFB qHOa4
      refine Wq ?_
      try simp only[pick,Gs,Gz]
      go_wp2
      obtain ⟨Ob,hOb⟩:∃A,A=y4.heap.size:=⟨_,rfl⟩
      obtain ⟨y5,hw⟩:∃X,X=y4.alloc (.cells #[.int .i64 0,.int .i64 0,.int .i64 0,.slice none 0 0,.slice none 0 0] 61):=⟨_,rfl⟩
      rw[←hw,←hOb]
      have hb:Below y4.heap.size y4 y5:=by rw[hw];exact (Br _ _).alloc (Nr _) _
      have HOb5:Hid (y5.heap[Ob]? =some (.cells #[.int .i64 0,.int .i64 0,.int .i64 0,.slice none 0 0,.slice none 0 0] 61 (0,0))):=Hj (by rw[hw,hOb];exact heap_alloc_new _ _)
      have hObl5:Ob<y5.heap.size:=(Al HOb5.out)
      have hObg:y0.heap.size≤Ob:=by omega
      have hOab:Oa≠Ob:=by omega
      clear hw hOb
      have hzz:=hb.size
      have HD5:=Hj (HD4.out.trans (hb.mono hz4))
      have hz5:y0.heap.size≤y5.heap.size:=HD5.out.size
      have HO15:=Hj (own_below HO14.out hb (Nr _))
      have HO25:=Hj (own_below HO24.out hb (Nr _))
      have HO35:=Hj (own_below HO34.out hb (Nr _))
      have HO45:=Hj (own_below HO44.out hb (Nr _))
      have HOa5:=Hj ((hb.block Oa hOal4).trans HOa4.out)
      have hOal5:Oa<y5.heap.size:=by omega
      have HS5:=Hj (same_below' HS4.out hb)
      clear hzz hb
      refine Sm (Ss HS5.out) ?_
      try simp only[pick,Gs,Gz]
      go_wp2
      refine Rm ?_
      exact Tb9.out y5 Oa Ob ta1 ta2 te1 te2 tb1 tb2 tf1 tf2 fa fb ja1 ja2 je1 je2 jb1 jb2 jf1 jf2 ⟨HD5.out,hz5,HS5.out,HO15.out,HO25.out,HO35.out,HO45.out,HFA.out,HFB.out,HOa5.out,hOal5,hOag,HOb5.out,hObl5,hObg,hOab⟩
     rintro y4 Ob ta1 ta2 te1 te2 tb1 tb2 tf1 tf2 fa fb ja1 ja2 je1 je2 jb1 jb2 jf1 jf2 ⟨qHD4,hz4,qHS4,qHO14,qHO24,qHO34,qHO44,qHFA,qHFB,qHOb4,hObl4,hObg⟩
     have HD4:=Hj qHD4
     have HS4:=Hj qHS4
     have HO14:=Hj qHO14
     have HO24:=Hj qHO24
     have HO34:=Hj qHO34
     have HO44:=Hj qHO44
     have HFA:=Hj qHFA
     have HFB:=Hj qHFB
     have HOb4:=Hj qHOb4
     clear qHD4 qHS4 qHO14 qHO24 qHO34 qHO44 qHFA qHFB qHOb4
     refine Wq ?_
     try simp only[pick,Gs,Gz]
     go_wp2
     obtain ⟨Oa,hOa⟩:∃A,A=y4.heap.size:=⟨_,rfl⟩
     obtain ⟨y5,hw⟩:∃X,X=y4.alloc (.cells #[.int .i64 0,.int .i64 0,.int .i64 0,.slice none 0 0,.slice none 0 0] 61):=⟨_,rfl⟩
     rw[←hw,←hOa]
     have hb:Below y4.heap.size y4 y5:=by rw[hw];exact (Br _ _).alloc (Nr _) _
     have HOa5:Hid (y5.heap[Oa]? =some (.cells #[.int .i64 0,.int .i64 0,.int .i64 0,.slice none 0 0,.slice none 0 0] 61 (0,0))):=Hj (by rw[hw,hOa];exact heap_alloc_new _ _)
     have hOal5:Oa<y5.heap.size:=(Al HOa5.out)
     have hOag:y0.heap.size≤Oa:=by omega
     have hOab:Oa≠Ob:=by omega
     clear hw hOa
     have hzz:=hb.size
     have HD5:=Hj (HD4.out.trans (hb.mono hz4))
     have hz5:y0.heap.size≤y5.heap.size:=HD5.out.size
     have HO15:=Hj (own_below HO14.out hb (Nr _))
     have HO25:=Hj (own_below HO24.out hb (Nr _))
     have HO35:=Hj (own_below HO34.out hb (Nr _))
     have HO45:=Hj (own_below HO44.out hb (Nr _))
     have HOb5:=Hj ((hb.block Ob hObl4).trans HOb4.out)
     have hObl5:Ob<y5.heap.size:=by omega
     have HS5:=Hj (same_below' HS4.out hb)
     clear hzz hb
     refine Sm (Ss HS5.out) ?_
     try simp only[pick,Gs,Gz]
     go_wp2
     refine Rm ?_
     exact Tb9.out y5 Oa Ob ta1 ta2 te1 te2 tb1 tb2 tf1 tf2 fa fb ja1 ja2 je1 je2 jb1 jb2 jf1 jf2 ⟨HD5.out,hz5,HS5.out,HO15.out,HO25.out,HO35.out,HO45.out,HFA.out,HFB.out,HOa5.out,hOal5,hOag,HOb5.out,hObl5,hObg,hOab⟩
    rintro y5 Oa Ob ta1 ta2 te1 te2 tb1 tb2 tf1 tf2 fa fb ja1 ja2 je1 je2 jb1 jb2 jf1 jf2 ⟨qHD5,hz5,qHS5,qHO15,qHO25,qHO35,qHO45,qHFA,qHFB,qHOa5,hOal5,hOag,qHOb5,hObl5,hObg,hOab⟩
    have HD5:=Hj qHD5
    have HS5:=Hj qHS5
    have HO15:=Hj qHO15
    have HO25:=Hj qHO25
    have HO35:=Hj qHO35
    have HO45:=Hj qHO45
    have HFA:=Hj qHFA
    have HFB:=Hj qHFB
    have HOa5:=Hj qHOa5
    have HOb5:=Hj qHOb5
    clear qHD5 qHS5 qHO15 qHO25 qHO35 qHO45 qHFA qHFB qHOa5 qHOb5
    refine Wq ?_
    try simp only[pick,Gs,Gz]
    go_wp2_with (refine wpList_store_row rfl 61 _ _ rfl Oa (#[.int .i64 fa.en,.int .i64 fa.st,.int .i64 fa.er,.slice ja1 fa.im.length ja2,.slice je1 fa.ef.length je2]) rfl rfl 61 (#[.int .i64 0,.int .i64 0,.int .i64 0,.slice none 0 0,.slice none 0 0]) HOa5.out (by kernel_rfl) rfl (by kernel_rfl) ?_)
    obtain ⟨y6,hN⟩:∃W,W=y5.setRow Oa (#[.int .i64 fa.en,.int .i64 fa.st,.int .i64 fa.er,.slice ja1 fa.im.length ja2,.slice je1 fa.ef.length je2]):=⟨_,rfl⟩
    rw[←hN]
    have hNk:Keep [Oa] y5 y6:=by rw[hN];exact keep_setRow _ _ _
    have hNz:=hNk.size
    have HOa6:Hid (y6.heap[Oa]? =some (.cells (#[.int .i64 fa.en,.int .i64 fa.st,.int .i64 fa.er,.slice ja1 fa.im.length ja2,.slice je1 fa.ef.length je2]) 61 (0,0))):=Hj (by rw[hN];exact setRow_heap _ _ _ _ _ _ HOa5.out)
    have hz6:y0.heap.size≤y6.heap.size:=by omega
    have HD6:=Hj (below_keep HD5.out hNk (fun f hf=>by rw[M1' hf];exact hOag))
    have hOal6:Oa<y6.heap.size:=by omega
    have hObl6:Ob<y6.heap.size:=by omega
    have HOb6:=Hj ((hNk.block Ob hObl5 (fun hm=>by rw[List.mem_singleton] at hm;omega)).trans HOb5.out)
    have HO16:=Hj (own_keepT HO15.out HOa5.out (by decide) hNk)
    have HO26:=Hj (own_keepT HO25.out HOa5.out (by decide) hNk)
    have HO36:=Hj (own_keepT HO35.out HOa5.out (by decide) hNk)
    have HO46:=Hj (own_keepT HO45.out HOa5.out (by decide) hNk)
    clear hN hNk hNz
    refine Sm (Ty.Shown.last rfl) ?_
    try simp only[pick,Gs,Gz]
    go_wp2
    refine Rm ?_
    refine Wq ?_
    try simp only[pick,Gs,Gz]
    go_wp2_with (refine wpList_store_row rfl 61 _ _ rfl Ob (#[.int .i64 fb.en,.int .i64 fb.st,.int .i64 fb.er,.slice jb1 fb.im.length jb2,.slice jf1 fb.ef.length jf2]) rfl rfl 61 (#[.int .i64 0,.int .i64 0,.int .i64 0,.slice none 0 0,.slice none 0 0]) HOb6.out (by kernel_rfl) rfl (by kernel_rfl) ?_)
    obtain ⟨y7,hN⟩:∃W,W=y6.setRow Ob (#[.int .i64 fb.en,.int .i64 fb.st,.int .i64 fb.er,.slice jb1 fb.im.length jb2,.slice jf1 fb.ef.length jf2]):=⟨_,rfl⟩
    rw[←hN]
    have hNk:Keep [Ob] y6 y7:=by rw[hN];exact keep_setRow _ _ _
    have hNz:=hNk.size
    have HOb7:Hid (y7.heap[Ob]? =some (.cells (#[.int .i64 fb.en,.int .i64 fb.st,.int .i64 fb.er,.slice jb1 fb.im.length jb2,.slice jf1 fb.ef.length jf2]) 61 (0,0))):=Hj (by rw[hN];exact setRow_heap _ _ _ _ _ _ HOb6.out)
    have hz7:y0.heap.size≤y7.heap.size:=by omega
    have HD7:=Hj (below_keep HD6.out hNk (fun f hf=>by rw[M1' hf];exact hObg))
    have hObl7:Ob<y7.heap.size:=by omega
    have hOal7:Oa<y7.heap.size:=by omega
    have HOa7:=Hj ((hNk.block Oa hOal6 (fun hm=>by rw[List.mem_singleton] at hm;omega)).trans HOa6.out)
    have HO17:=Hj (own_keepT HO16.out HOb6.out (by decide) hNk)
    have HO27:=Hj (own_keepT HO26.out HOb6.out (by decide) hNk)
    have HO37:=Hj (own_keepT HO36.out HOb6.out (by decide) hNk)
    have HO47:=Hj (own_keepT HO46.out HOb6.out (by decide) hNk)
    clear hN hNk hNz
    refine Sm (Ty.Shown.last rfl) ?_
    try simp only[pick,Gs,Gz]
    go_wp2
    refine Rm ?_
    refine Wd (by rfl) ⟨.head _,.head _,.head _,trivial⟩ ?_
    have hR0:=(Al HR0.out)
    have h00:=HU0.out.1.size
    go_wp2
    go_meet
    case rel=>exact ⟨Oa,Ob,fa,fb,ja1,ja2,je1,je2,jb1,jb2,jf1,jf2,HFA.out,HFB.out,rfl,rfl,HOa7.out,HOb7.out,(HD7.out.block C (Al HC0.out)).trans HC0.out,(HD7.out.block K (Al HK0.out)).trans HK0.out,(HD7.out.block R (Al HR0.out)).trans HR0.out,by omega,by omega,by omega,by omega,ulg_own6 HU0.out HKP.out HD7.out HO17.out HO27.out HO37.out HO47.out HOa7.out HOb7.out hOag hObg⟩
   case rest=>
    as_aux_lemma=>
    obtain ⟨Oa,Ob,fa,fb,ja1,ja2,je1,je2,jb1,jb2,jf1,jf2,hfa,hfb,rfl,rfl,hOa,hOb,hC,hK,hR,qOa,qOb,nOa,nOb,hU⟩:=hcut
    obtain ⟨w15,hw15⟩:∃W,W=wc:=⟨_,rfl⟩
    rw[←hw15] at hOa hOb hC hK hR hU⊢
    have HFA:=Hj hfa;have HFB:=Hj hfb
    have HC15:=Hj hC;have HK15:=Hj hK;have HR15:=Hj hR;have HU15:=Hj hU
    have HKQ:Hid (Kept (fun F w=>(PS x img ver t c xk imk vk tk F w∧B5 (.slice da y.d.length dc) (.slice ai y.a.im.length ac) (.slice ae y.a.ef.length aec) (.slice bi y.b.im.length bc) (.slice be y.b.ef.length bec) y.d y.a.im y.a.ef y.b.im y.b.ef F w)∧(B4 (.slice ja1 fa.im.length ja2) (.slice je1 fa.ef.length je2) (.slice jb1 fb.im.length jb2) (.slice jf1 fb.ef.length jf2) fa.im fa.ef fb.im fb.ef F w∧(Bx Oa #[.int .i64 fa.en,.int .i64 fa.st,.int .i64 fa.er,.slice ja1 fa.im.length ja2,.slice je1 fa.ef.length je2] 61 F w∧Bx Ob #[.int .i64 fb.en,.int .i64 fb.st,.int .i64 fb.er,.slice jb1 fb.im.length jb2,.slice jf1 fb.ef.length jf2] 61 F w)))):=Hj (six_kept HKP.out _ _ _ _ _ _ _ _ _ _ _ _ _ _)
    have fl1:fa.im.length≤400:=by have:=fout_il (qof x y.p) 0 y.a;rw[←hfa] at this;omega
    have fl2:fa.ef.length≤400:=by have:=fout_el (qof x y.p) 0 y.a;rw[←hfa] at this;omega
    have fl3:fb.im.length≤400:=by have:=fout_il (qof x y.p) 1 y.b;rw[←hfb] at this;omega
    have fl4:fb.ef.length≤400:=by have:=fout_el (qof x y.p) 1 y.b;rw[←hfb] at this;omega
    clear hw15 wc hfa hfb hOa hOb hC hK hR hU HU14 HC14 HK14 HR14 HKP
    obtain ⟨F,hF,hP,_,_⟩:=HU15.out.open
    have HPV:=Hj hP.1
    clear hP hF
    go_wp2_with (first | refine wpList_load_row rfl 36 _ rfl R rfl 36 (RUL x ver img.length t) (0,0) _ HR15.out Tryz.underlying36 rfl (by kernel_rfl) ?_ | refine wpList_load_mid rfl 41 _ rfl C 2 rfl [.int .i64 y.p.c,.int .i64 y.p.n,.int .i64 y.p.e,.int .i64 y.p.k,.int .i64 y.p.s,.int .i64 y.p.pl,.int .i64 y.p.m] _ (range_of HC15.out [.int .i64 y.p.c,.int .i64 y.p.n,.int .i64 y.p.e,.int .i64 y.p.k,.int .i64 y.p.s,.int .i64 y.p.pl,.int .i64 y.p.m] rfl) Tryz.underlying41 rfl (by kernel_rfl) ?_ | refine wpList_load_mid rfl 46 _ rfl C 18 rfl [.int .i64 y.a.en,.int .i64 y.a.st,.int .i64 y.a.er,.slice ai y.a.im.length ac,.slice ae y.a.ef.length aec] _ (range_of HC15.out [.int .i64 y.a.en,.int .i64 y.a.st,.int .i64 y.a.er,.slice ai y.a.im.length ac,.slice ae y.a.ef.length aec] rfl) Tryz.underlying46 rfl (by kernel_rfl) ?_ | refine wpList_load_mid rfl 46 _ rfl C 23 rfl [.int .i64 y.b.en,.int .i64 y.b.st,.int .i64 y.b.er,.slice bi y.b.im.length bc,.slice be y.b.ef.length bec] _ (range_of HC15.out [.int .i64 y.b.en,.int .i64 y.b.st,.int .i64 y.b.er,.slice bi y.b.im.length bc,.slice be y.b.ef.length bec] rfl) Tryz.underlying46 rfl (by kernel_rfl) ?_)
    refine (routcomes31_any (F:=F) _ x img ver y.p y.a y.b _ _ _ _ w15 (by omega) (by omega) (by omega) (by omega) HPV.out.1.1 HPV.out.2.2.1 HPV.out.2.2.2.1 HPV.out.2.2.2.2.1 HPV.out.2.2.2.2.2).mono ?_
    clear HPV
    rintro e w16 ⟨fa',fb',pa,pe,pb,pf,h1,h2,rfl,o1,o2,o3,o4,hb⟩
    obtain rfl:fa'=fa:=by rw[h1,HFA.out]
    obtain rfl:fb'=fb:=by rw[h2,HFB.out]
    obtain ⟨pa1,pa2,rfl⟩:=Oq o1
    obtain ⟨pe1,pe2,rfl⟩:=Oq o2
    obtain ⟨pb1,pb2,rfl⟩:=Oq o3
    obtain ⟨pf1,pf2,rfl⟩:=Oq o4
    have HO1:=Hj o1;have HO2:=Hj o2;have HO3:=Hj o3;have HO4:=Hj o4
    have HB16:=Hj hb
    have HR16:=Hj (Kb hb HR15.out)
    have HK16:=Hj (Kb hb HK15.out)
    have HC16:=Hj (Kb hb HC15.out)
    clear h1 h2 o1 o2 o3 o4 hb HR15 HK15 HC15
    go_upto_region 28 with (first | refine wpList_store_row rfl 46 _ _ rfl w16.heap.size (#[.int .i64 fa'.en,.int .i64 fa'.st,.int .i64 fa'.er,.slice pa1 fa'.im.length pa2,.slice pe1 fa'.ef.length pe2]) rfl rfl 46 (#[.int .i64 0,.int .i64 0,.int .i64 0,.slice none 0 0,.slice none 0 0]) (a2_0 w16 _ _) (by kernel_rfl) rfl (by kernel_rfl) ?_ | refine wpList_store_row rfl 46 _ _ rfl (w16.heap.size+1) (#[.int .i64 fb'.en,.int .i64 fb'.st,.int .i64 fb'.er,.slice pb1 fb'.im.length pb2,.slice pf1 fb'.ef.length pf2]) rfl rfl 46 (#[.int .i64 0,.int .i64 0,.int .i64 0,.slice none 0 0,.slice none 0 0]) (two_old w16 _ _ _ _ _) (by kernel_rfl) rfl (by kernel_rfl) ?_)
    obtain ⟨w17,hw⟩:∃W,W=((((w16.alloc (.cells #[.int .i64 0,.int .i64 0,.int .i64 0,.slice none 0 0,.slice none 0 0] 46)).alloc (.cells #[.int .i64 0,.int .i64 0,.int .i64 0,.slice none 0 0,.slice none 0 0] 46)).setRow w16.heap.size (#[.int .i64 fa'.en,.int .i64 fa'.st,.int .i64 fa'.er,.slice pa1 fa'.im.length pa2,.slice pe1 fa'.ef.length pe2])).setRow (w16.heap.size+1) (#[.int .i64 fb'.en,.int .i64 fb'.st,.int .i64 fb'.er,.slice pb1 fb'.im.length pb2,.slice pf1 fb'.ef.length pf2])):=⟨_,rfl⟩
    rw[←hw]
    obtain ⟨n1,n2,hb,nl⟩:=two_rows w16 _ _ _ _ _ _ w17 hw
    obtain ⟨Pa,hPa⟩:∃S,S=w16.heap.size:=⟨_,rfl⟩
    obtain ⟨Pb,hPb⟩:∃S,S=w16.heap.size+1:=⟨_,rfl⟩
    rw[←hPb] at n2⊢
    rw[←hPa] at n1⊢
    have s16:=HB16.out.size
    have HR17:=Hj (Kb hb HR16.out)
    have HK17:=Hj (Kb hb HK16.out)
    have HC17:=Hj (Kb hb HC16.out)
    have HU17:=Hj (ulg_own6 HU15.out HKQ.out (HB16.out.trans (hb.mono s16)) (own_below HO1.out hb (Nr _)) (own_below HO2.out hb (Nr _)) (own_below HO3.out hb (Nr _)) (own_below HO4.out hb (Nr _)) n1 n2 (by omega) (by omega))
    have HKS:Hid (Kept (fun F w=>((PS x img ver t c xk imk vk tk F w∧B5 (.slice da y.d.length dc) (.slice ai y.a.im.length ac) (.slice ae y.a.ef.length aec) (.slice bi y.b.im.length bc) (.slice be y.b.ef.length bec) y.d y.a.im y.a.ef y.b.im y.b.ef F w)∧(B4 (.slice ja1 fa'.im.length ja2) (.slice je1 fa'.ef.length je2) (.slice jb1 fb'.im.length jb2) (.slice jf1 fb'.ef.length jf2) fa'.im fa'.ef fb'.im fb'.ef F w∧(Bx Oa #[.int .i64 fa'.en,.int .i64 fa'.st,.int .i64 fa'.er,.slice ja1 fa'.im.length ja2,.slice je1 fa'.ef.length je2] 61 F w∧Bx Ob #[.int .i64 fb'.en,.int .i64 fb'.st,.int .i64 fb'.er,.slice jb1 fb'.im.length jb2,.slice jf1 fb'.ef.length jf2] 61 F w)))∧(B4 (.slice pa1 fa'.im.length pa2) (.slice pe1 fa'.ef.length pe2) (.slice pb1 fb'.im.length pb2) (.slice pf1 fb'.ef.length pf2) fa'.im fa'.ef fb'.im fb'.ef F w∧(Bx Pa #[.int .i64 fa'.en,.int .i64 fa'.st,.int .i64 fa'.er,.slice pa1 fa'.im.length pa2,.slice pe1 fa'.ef.length pe2] 46 F w∧Bx Pb #[.int .i64 fb'.en,.int .i64 fb'.st,.int .i64 fb'.er,.slice pb1 fb'.im.length pb2,.slice pf1 fb'.ef.length pf2] 46 F w)))):=Hj (six_kept HKQ.out _ _ _ _ _ _ _ _ _ _ _ _ _ _)
    clear hw n1 n2 nl hPa hPb hb HB16 HO1 HO2 HO3 HO4 HU15 HR16 HK16 HC16 s16
    have hnum:0≤x.num∧x.num≤1000000:=by obtain ⟨h1,h2,_⟩:=HT.out;omega
    have hatt:0≤x.att∧x.att≤1000000:=by obtain ⟨_,_,_,_,h5,h6,_⟩:=HT.out;omega
    have c28:=Bj HC17.out 28 rfl
    obtain ⟨F,hF,hP,_,_⟩:=HU17.out.open
    have HOa17:=Hj hP.1.2.2.1.2
    have HOb17:=Hj hP.1.2.2.2.2
    clear hP hF
    go_wp2_with (first | refine wpList_load_mid rfl 41 _ rfl C 2 rfl [.int .i64 y.p.c,.int .i64 y.p.n,.int .i64 y.p.e,.int .i64 y.p.k,.int .i64 y.p.s,.int .i64 y.p.pl,.int .i64 y.p.m] _ (range_of HC17.out [.int .i64 y.p.c,.int .i64 y.p.n,.int .i64 y.p.e,.int .i64 y.p.k,.int .i64 y.p.s,.int .i64 y.p.pl,.int .i64 y.p.m] rfl) Tryz.underlying41 rfl (by kernel_rfl) ?_ | refine wpList_load_mid rfl 44 _ rfl C 9 rfl [.int .i64 y.ms,.int .i64 y.md,.int .i64 y.mt,.int .i64 y.mq,.int .i64 y.m0,.int .i64 y.m1,.int .i64 y.m2,.int .i64 y.m3,.slice da y.d.length dc] _ (range_of HC17.out [.int .i64 y.ms,.int .i64 y.md,.int .i64 y.mt,.int .i64 y.mq,.int .i64 y.m0,.int .i64 y.m1,.int .i64 y.m2,.int .i64 y.m3,.slice da y.d.length dc] rfl) Tryz.underlying44 rfl (by kernel_rfl) ?_ | refine wpList_load_row rfl 61 _ rfl Oa rfl 61 (#[.int .i64 fa'.en,.int .i64 fa'.st,.int .i64 fa'.er,.slice ja1 fa'.im.length ja2,.slice je1 fa'.ef.length je2]) (0,0) _ HOa17.out Tryz.underlying61 rfl (by kernel_rfl) ?_ | refine wpList_load_row rfl 61 _ rfl Ob rfl 61 (#[.int .i64 fb'.en,.int .i64 fb'.st,.int .i64 fb'.er,.slice jb1 fb'.im.length jb2,.slice jf1 fb'.ef.length jf2]) (0,0) _ HOb17.out Tryz.underlying61 rfl (by kernel_rfl) ?_)
    refine (ulg_finish HU17.out HKS.out y.p fa' fb' _ _ _ _ y.ms y.md y.mt y.mq y.m0 y.m1 y.m2 y.m3 _ y.pm rfl (show ver<1000000 by omega) (by omega) HQ.out.1 HQ.out.2 hnum hatt (by omega) (fun F w h=>⟨h.1.2.1.1,h.1.2.1.2.1,h.1.2.1.2.2.1,h.1.2.1.2.2.2⟩)).mono ?_
    rintro e w18 ⟨r,hr,rfl,hU,hz⟩
    have HRE:=Hj hr
    obtain ⟨img2,ver2,hrs,hti'⟩:=fin_ti hr HT.out fl1
    have HRS:=Hj hrs;have HTI:=Hj hti'
    rw[hrs] at hU
    have HU18:=Hj hU
    have HR18:=Hj ((hz R (by simp)).trans HR17.out)
    have HK18:=Hj ((hz K (by simp)).trans HK17.out)
    have HC18:=Hj ((hz C (by simp)).trans HC17.out)
    clear hr hrs hti' hU hz c28 HOa17 HOb17 HU17 HR17 HK17 HC17
    go_upto_region 29 with (refine wpList_store_row rfl 68 _ _ rfl w18.heap.size (#[.int .i64 r.c,.int .i64 r.st]) rfl rfl 68 (#[.int .i64 0,.int .i64 0]) (heap_alloc_new w18 _) (by kernel_rfl) rfl (by kernel_rfl) ?_)
    rw[World.setRow_alloc_new]
    obtain ⟨V,hV⟩:∃S,S=w18.heap.size:=⟨_,rfl⟩
    obtain ⟨w19,hw⟩:∃W,W=w18.alloc (.cells (#[.int .i64 r.c,.int .i64 r.st]) 68):=⟨_,rfl⟩
    rw[←hw,←hV]
    have hb:Below w18.heap.size w18 w19:=by rw[hw];exact (Br _ _).alloc (Nr _) _
    have HV19:Hid (w19.heap[V]? =some (.cells (#[.int .i64 r.c,.int .i64 r.st]) 68 (0,0))):=Hj (by rw[hw,hV];exact heap_alloc_new _ _)
    have nRV:R≠V:=by have:=(Al HR18.out);omega
    have nKV:K≠V:=by have:=(Al HK18.out);omega
    have nCV:C≠V:=by have:=(Al HC18.out);omega
    have HR19:=Hj (Kb hb HR18.out)
    have HK19:=Hj (Kb hb HK18.out)
    have HC19:=Hj (Kb hb HC18.out)
    have HU19:=Hj (HU18.out.below HKS.out hb)
    clear hw hV hb HU18 HR18 HK18 HC18
    have c28:=Bj HC19.out 28 rfl
    obtain ⟨F,hF,hP,_,hcont⟩:=HU19.out.open
    have HPP:=Hj hP;have HCT:=Hj hcont;have HFF:=Hj hF
    have HPa19:=Hj hP.2.2.1.2
    have HPb19:=Hj hP.2.2.2.2
    clear hP hF hcont
    go_wp2_with (first | refine wpList_load_row rfl 36 _ rfl R rfl 36 (RUL x ver img.length t) (0,0) _ HR19.out Tryz.underlying36 rfl (by kernel_rfl) ?_ | refine wpList_load_mid rfl 41 _ rfl C 2 rfl [.int .i64 y.p.c,.int .i64 y.p.n,.int .i64 y.p.e,.int .i64 y.p.k,.int .i64 y.p.s,.int .i64 y.p.pl,.int .i64 y.p.m] _ (range_of HC19.out [.int .i64 y.p.c,.int .i64 y.p.n,.int .i64 y.p.e,.int .i64 y.p.k,.int .i64 y.p.s,.int .i64 y.p.pl,.int .i64 y.p.m] rfl) Tryz.underlying41 rfl (by kernel_rfl) ?_ | refine wpList_load_mid rfl 44 _ rfl C 9 rfl [.int .i64 y.ms,.int .i64 y.md,.int .i64 y.mt,.int .i64 y.mq,.int .i64 y.m0,.int .i64 y.m1,.int .i64 y.m2,.int .i64 y.m3,.slice da y.d.length dc] _ (range_of HC19.out [.int .i64 y.ms,.int .i64 y.md,.int .i64 y.mt,.int .i64 y.mq,.int .i64 y.m0,.int .i64 y.m1,.int .i64 y.m2,.int .i64 y.m3,.slice da y.d.length dc] rfl) Tryz.underlying44 rfl (by kernel_rfl) ?_ | refine wpList_load_row rfl 46 _ rfl Pa rfl 46 (#[.int .i64 fa'.en,.int .i64 fa'.st,.int .i64 fa'.er,.slice pa1 fa'.im.length pa2,.slice pe1 fa'.ef.length pe2]) (0,0) _ HPa19.out Tryz.underlying46 rfl (by kernel_rfl) ?_ | refine wpList_load_row rfl 46 _ rfl Pb rfl 46 (#[.int .i64 fb'.en,.int .i64 fb'.st,.int .i64 fb'.er,.slice pb1 fb'.im.length pb2,.slice pf1 fb'.ef.length pf2]) (0,0) _ HPb19.out Tryz.underlying46 rfl (by kernel_rfl) ?_)
    refine (rfinish31_any (F:=F) _ x img ver y.p fa' fb' _ _ _ _ y.ms y.md y.mt y.mq y.m0 y.m1 y.m2 y.m3 _ y.pm w19 (by omega) HQ.out.1 HQ.out.2 hnum hatt (by omega) (by omega) (by omega) HFF.out HPP.out.1.1.1.1 HPP.out.2.1.1 HPP.out.2.1.2.1 HPP.out.2.1.2.2.1 HPP.out.2.1.2.2.2).mono ?_
    rintro e w20 ⟨v',rr,hr',rfl,hv',hb⟩
    obtain rfl:rr=r:=by rw[hr',HRE.out]
    replace hv':RUV F w20 v' rr.x img2 ver2:=by rw[HRS.out] at hv';exact hv'
    obtain ⟨t2,rfl⟩:=RUV.open hv'
    have HU20:=Hj (HCT.out (fun F w=>(((PS x img ver t c xk imk vk tk F w∧B5 (.slice da y.d.length dc) (.slice ai y.a.im.length ac) (.slice ae y.a.ef.length aec) (.slice bi y.b.im.length bc) (.slice be y.b.ef.length bec) y.d y.a.im y.a.ef y.b.im y.b.ef F w)∧(B4 (.slice ja1 fa'.im.length ja2) (.slice je1 fa'.ef.length je2) (.slice jb1 fb'.im.length jb2) (.slice jf1 fb'.ef.length jf2) fa'.im fa'.ef fb'.im fb'.ef F w∧(Bx Oa #[.int .i64 fa'.en,.int .i64 fa'.st,.int .i64 fa'.er,.slice ja1 fa'.im.length ja2,.slice je1 fa'.ef.length je2] 61 F w∧Bx Ob #[.int .i64 fb'.en,.int .i64 fb'.st,.int .i64 fb'.er,.slice jb1 fb'.im.length jb2,.slice jf1 fb'.ef.length jf2] 61 F w)))∧(B4 (.slice pa1 fa'.im.length pa2) (.slice pe1 fa'.ef.length pe2) (.slice pb1 fb'.im.length pb2) (.slice pf1 fb'.ef.length pf2) fa'.im fa'.ef fb'.im fb'.ef F w∧(Bx Pa #[.int .i64 fa'.en,.int .i64 fa'.st,.int .i64 fa'.er,.slice pa1 fa'.im.length pa2,.slice pe1 fa'.ef.length pe2] 46 F w∧Bx Pb #[.int .i64 fb'.en,.int .i64 fb'.st,.int .i64 fb'.er,.slice pb1 fb'.im.length pb2,.slice pf1 fb'.ef.length pf2] 46 F w)))∧RUV F w (.agg (RUL rr.x ver2 img2.length t2)) rr.x img2 ver2) w20 hb ⟨Kept.below HKS.out hb HPP.out,hv'⟩)
    have HKT:Hid (Kept (fun F w=>(((PS x img ver t c xk imk vk tk F w∧B5 (.slice da y.d.length dc) (.slice ai y.a.im.length ac) (.slice ae y.a.ef.length aec) (.slice bi y.b.im.length bc) (.slice be y.b.ef.length bec) y.d y.a.im y.a.ef y.b.im y.b.ef F w)∧(B4 (.slice ja1 fa'.im.length ja2) (.slice je1 fa'.ef.length je2) (.slice jb1 fb'.im.length jb2) (.slice jf1 fb'.ef.length jf2) fa'.im fa'.ef fb'.im fb'.ef F w∧(Bx Oa #[.int .i64 fa'.en,.int .i64 fa'.st,.int .i64 fa'.er,.slice ja1 fa'.im.length ja2,.slice je1 fa'.ef.length je2] 61 F w∧Bx Ob #[.int .i64 fb'.en,.int .i64 fb'.st,.int .i64 fb'.er,.slice jb1 fb'.im.length jb2,.slice jf1 fb'.ef.length jf2] 61 F w)))∧(B4 (.slice pa1 fa'.im.length pa2) (.slice pe1 fa'.ef.length pe2) (.slice pb1 fb'.im.length pb2) (.slice pf1 fb'.ef.length pf2) fa'.im fa'.ef fb'.im fb'.ef F w∧(Bx Pa #[.int .i64 fa'.en,.int .i64 fa'.st,.int .i64 fa'.er,.slice pa1 fa'.im.length pa2,.slice pe1 fa'.ef.length pe2] 46 F w∧Bx Pb #[.int .i64 fb'.en,.int .i64 fb'.st,.int .i64 fb'.er,.slice pb1 fb'.im.length pb2,.slice pf1 fb'.ef.length pf2] 46 F w)))∧RUV F w (.agg (RUL rr.x ver2 img2.length t2)) rr.x img2 ver2)):=Hj (HKS.out.and (RUV.kept _ _ _))
    have HR20:=Hj (Kb hb HR19.out)
    have HK20:=Hj (Kb hb HK19.out)
    have HC20:=Hj (Kb hb HC19.out)
    have HV20:=Hj (Kb hb HV19.out)
    clear hb hv' hr' HCT HPP HFF HPa19 HPb19 c28 HU19 HR19 HK19 HC19 HV19
    go_upto_region 30 with (first | refine wpList_store_row rfl 36 _ _ rfl w20.heap.size (RUL rr.x ver2 img2.length t2) rfl rfl 36 (#[.int .i64 0,.slice none 0 0,.slice none 0 0,.slice none 0 0,.int .i64 0,.bool false,.bool false,.slice none 0 0,.slice none 0 0,.int .i64 0,.int .i64 0,.int .i64 0,.int .i64 0,.int .i64 0,.bool false,.int .i64 0]) (a2_0 w20 _ _) (by kernel_rfl) rfl (by kernel_rfl) ?_ | refine wpList_store_row rfl 71 _ _ rfl (w20.heap.size+1) (#[.int .i64 rr.c,.int .i64 rr.st]) rfl rfl 71 (#[.int .i64 0,.int .i64 0]) (two_old w20 _ _ _ _ _) (by kernel_rfl) rfl (by kernel_rfl) ?_)
    obtain ⟨w21,hw⟩:∃W,W=((((w20.alloc (.cells #[.int .i64 0,.slice none 0 0,.slice none 0 0,.slice none 0 0,.int .i64 0,.bool false,.bool false,.slice none 0 0,.slice none 0 0,.int .i64 0,.int .i64 0,.int .i64 0,.int .i64 0,.int .i64 0,.bool false,.int .i64 0] 36)).alloc (.cells #[.int .i64 0,.int .i64 0] 71)).setRow w20.heap.size (RUL rr.x ver2 img2.length t2)).setRow (w20.heap.size+1) (#[.int .i64 rr.c,.int .i64 rr.st])):=⟨_,rfl⟩
    rw[←hw]
    obtain ⟨n1,n2,hb,nl⟩:=two_rows w20 _ _ _ _ _ _ w21 hw
    obtain ⟨N,hN⟩:∃S,S=w20.heap.size:=⟨_,rfl⟩
    obtain ⟨W,hW⟩:∃S,S=w20.heap.size+1:=⟨_,rfl⟩
    rw[←hW] at n2⊢
    rw[←hN] at n1⊢
    have nRN:N≠R:=by have:=(Al HR20.out);omega
    have HN21:=Hj n1;have HW21:=Hj n2
    have HR21:=Hj (Kb hb HR20.out)
    have HK21:=Hj (Kb hb HK20.out)
    have HV21:=Hj (Kb hb HV20.out)
    have HU21:=Hj (HU20.out.below HKT.out hb)
    clear hw n1 n2 nl hN hW hb HU20 HR20 HK20 HV20 HC20
    obtain ⟨F,hF,hP,_,_⟩:=HU21.out.open
    have HOa21:=Hj hP.1.1.2.2.1.2;have HOb21:=Hj hP.1.1.2.2.2.2
    have HPa21:=Hj hP.1.2.2.1.2;have HPb21:=Hj hP.1.2.2.2.2
    have HJ1:=Hj (bytes_nil hP.1.1.2.1.1);have HJ2:=Hj (bytes_nil hP.1.1.2.1.2.1);have HJ3:=Hj (bytes_nil hP.1.1.2.1.2.2.1);have HJ4:=Hj (bytes_nil hP.1.1.2.1.2.2.2)
    have HG1:=Hj (bytes_nil hP.1.2.1.1);have HG2:=Hj (bytes_nil hP.1.2.1.2.1);have HG3:=Hj (bytes_nil hP.1.2.1.2.2.1);have HG4:=Hj (bytes_nil hP.1.2.1.2.2.2)
    clear hP hF
    have hBl:∀z∈[Oa,Ob,Pa,Pb,V,W],∃cc e f,w21.heap[z]? =some (.cells cc e f):=fun z hz=>by
     simp only[List.mem_cons,List.not_mem_nil,or_false] at hz
     rcases hz with rfl | rfl | rfl | rfl | rfl | rfl
     ·exact ⟨_,_,_,HOa21.out⟩
     ·exact ⟨_,_,_,HOb21.out⟩
     ·exact ⟨_,_,_,HPa21.out⟩
     ·exact ⟨_,_,_,HPb21.out⟩
     ·exact ⟨_,_,_,HV21.out⟩
     exact ⟨_,_,_,HW21.out⟩
    refine Ty.wp_tree [Oa,Ob,Pa,Pb,V,W] [0,2,6,8,13,14] [] [0,2,6,8,13,14] [0,2] (.alt [1] (.alt [3,4,5,6,8] (.alt [7] (.alt [9,10,11,12,13,14,15,16,17,18,19,20,21] (.done) (.no)) (.no)) (.no)) (.no)) (by kernel_rfl) (by kernel_rfl) (by kernel_rfl) (by kernel_rfl) hBl ?_
    obtain ⟨y0,hy⟩:∃y,y=w21.drew:=⟨_,rfl⟩
    have HSy0:Hid (SameB [Oa,Ob,Pa,Pb,V,W] y0 y0):=Hj (by rw[hy];exact same_start hBl)
    clear hBl
    rw[←hy]
    have hd:Below w21.heap.size w21 y0:=by rw[hy];exact (Br _ _).drew
    have HU0:=Hj (HU21.out.below HKT.out hd)
    have HRy0:=Hj (Kb hd HR21.out)
    have HKy0:=Hj (Kb hd HK21.out)
    have HVy0:=Hj (Kb hd HV21.out)
    have HWy0:=Hj (Kb hd HW21.out)
    have HNy0:=Hj (Kb hd HN21.out)
    have HOay0:=Hj (Kb hd HOa21.out)
    have HOby0:=Hj (Kb hd HOb21.out)
    have HPay0:=Hj (Kb hd HPa21.out)
    have HPby0:=Hj (Kb hd HPb21.out)
    have HJ1y0:=Hj (Rb HJ1.out hd)
    have HJ2y0:=Hj (Rb HJ2.out hd)
    have HJ3y0:=Hj (Rb HJ3.out hd)
    have HJ4y0:=Hj (Rb HJ4.out hd)
    have HG1y0:=Hj (Rb HG1.out hd)
    have HG2y0:=Hj (Rb HG2.out hd)
    have HG3y0:=Hj (Rb HG3.out hd)
    have HG4y0:=Hj (Rb HG4.out hd)
    clear hy hd HU21 HR21 HK21 HV21 HW21 HN21 HOa21 HOb21 HPa21 HPb21 HJ1 HJ2 HJ3 HJ4 HG1 HG2 HG3 HG4
    try simp only[pick,Gs,Gz]
    go_wp2_with (first | refine wpList_load_row rfl 61 _ rfl Oa rfl 61 (#[.int .i64 fa'.en,.int .i64 fa'.st,.int .i64 fa'.er,.slice ja1 fa'.im.length ja2,.slice je1 fa'.ef.length je2]) (0,0) _ HOay0.out Tryz.underlying61 rfl (by kernel_rfl) ?_ | refine wpList_load_row rfl 46 _ rfl Pa rfl 46 (#[.int .i64 fa'.en,.int .i64 fa'.st,.int .i64 fa'.er,.slice pa1 fa'.im.length pa2,.slice pe1 fa'.ef.length pe2]) (0,0) _ HPay0.out Tryz.underlying46 rfl (by kernel_rfl) ?_)
    refine Rm ?_
    refine Wq ?_
    try simp only[pick,Gs,Gz]
    go_wp2_with fail
    refine (from_any27 [] fa' _ _ y0 (by omega) (by omega) HJ1y0.out HJ2y0.out).mono ?_
    rintro e y1 ⟨za,ze,rfl,o1,o2,hb⟩
    obtain ⟨za1,za2,rfl⟩:=Oq o1
    obtain ⟨ze1,ze2,rfl⟩:=Oq o2
    have HZ1y1:=Hj (Bytes.row (F:=[]) o1 rfl (fun f hf=>by cases hf))
    have HZ2y1:=Hj (Bytes.row (F:=[]) o2 rfl (fun f hf=>by cases hf))
    clear o1 o2
    have HRy1:=Hj (Kb hb HRy0.out)
    have HKy1:=Hj (Kb hb HKy0.out)
    have HVy1:=Hj (Kb hb HVy0.out)
    have HWy1:=Hj (Kb hb HWy0.out)
    have HNy1:=Hj (Kb hb HNy0.out)
    have HOay1:=Hj (Kb hb HOay0.out)
    have HOby1:=Hj (Kb hb HOby0.out)
    have HPay1:=Hj (Kb hb HPay0.out)
    have HPby1:=Hj (Kb hb HPby0.out)
    have HJ1y1:=Hj (Rb HJ1y0.out hb)
    have HJ2y1:=Hj (Rb HJ2y0.out hb)
    have HJ3y1:=Hj (Rb HJ3y0.out hb)
    have HJ4y1:=Hj (Rb HJ4y0.out hb)
    have HG1y1:=Hj (Rb HG1y0.out hb)
    have HG2y1:=Hj (Rb HG2y0.out hb)
    have HG3y1:=Hj (Rb HG3y0.out hb)
    have HG4y1:=Hj (Rb HG4y0.out hb)
    have HU1:=Hj (HU0.out.below HKT.out hb)
    have HSy1:=Hj (same_below' HSy0.out hb)
    clear hb HU0 HRy0 HKy0 HVy0 HWy0 HNy0 HOay0 HOby0 HPay0 HPby0 HJ1y0 HJ2y0 HJ3y0 HJ4y0 HG1y0 HG2y0 HG3y0 HG4y0
    go_wp2
    refine Sm (Ss HSy1.out) ?_
    try simp only[pick,Gs,Gz]
    go_wp2
    refine Rm ?_
    refine Wq ?_
    try simp only[pick,Gs,Gz]
    go_wp2_with fail
    refine (req27_any fa' _ _ _ _ y1 HZ1y1.out HZ2y1.out HG1y1.out HG2y1.out).mono ?_
    rintro e y2 ⟨rfl,hb⟩
    have HRy2:=Hj (Kb hb HRy1.out)
    have HKy2:=Hj (Kb hb HKy1.out)
    have HVy2:=Hj (Kb hb HVy1.out)
    have HWy2:=Hj (Kb hb HWy1.out)
    have HNy2:=Hj (Kb hb HNy1.out)
    have HOay2:=Hj (Kb hb HOay1.out)
    have HOby2:=Hj (Kb hb HOby1.out)
    have HPay2:=Hj (Kb hb HPay1.out)
    have HPby2:=Hj (Kb hb HPby1.out)
    have HJ1y2:=Hj (Rb HJ1y1.out hb)
    have HJ2y2:=Hj (Rb HJ2y1.out hb)
    have HJ3y2:=Hj (Rb HJ3y1.out hb)
    have HJ4y2:=Hj (Rb HJ4y1.out hb)
    have HG1y2:=Hj (Rb HG1y1.out hb)
    have HG2y2:=Hj (Rb HG2y1.out hb)
    have HG3y2:=Hj (Rb HG3y1.out hb)
    have HG4y2:=Hj (Rb HG4y1.out hb)
    have HZ1y2:=Hj (Rb HZ1y1.out hb)
    have HZ2y2:=Hj (Rb HZ2y1.out hb)
    have HU2:=Hj (HU1.out.below HKT.out hb)
    have HSy2:=Hj (same_below' HSy1.out hb)
    clear hb HU1 HRy1 HKy1 HVy1 HWy1 HNy1 HOay1 HOby1 HPay1 HPby1 HJ1y1 HJ2y1 HJ3y1 HJ4y1 HG1y1 HG2y1 HG3y1 HG4y1 HZ1y1 HZ2y1
    clear HZ1y2 HZ2y2
    go_wp2
    refine Sm (Ss HSy2.out) ?_
    have eOb_0:=Bj HOby2.out 0 rfl
    have eOb_1:=Bj HOby2.out 1 rfl
    have eOb_2:=Bj HOby2.out 2 rfl
    have eOb_3:=Bj HOby2.out 3 rfl
    have eOb_4:=Bj HOby2.out 4 rfl
    have ePb_0:=Bj HPby2.out 0 rfl
    have ePb_1:=Bj HPby2.out 1 rfl
    have ePb_2:=Bj HPby2.out 2 rfl
    have ePb_3:=Bj HPby2.out 3 rfl
    have ePb_4:=Bj HPby2.out 4 rfl
    try simp only[pick,Gs,Gz]
    go_wp2
    clear eOb_0 eOb_1 eOb_2 eOb_3 eOb_4
    clear ePb_0 ePb_1 ePb_2 ePb_3 ePb_4
    refine Rm ?_
    refine Wq ?_
    try simp only[pick,Gs,Gz]
    go_wp2_with fail
    refine (from_any27 [] fb' _ _ y2 (by omega) (by omega) HJ3y2.out HJ4y2.out).mono ?_
    rintro e y3 ⟨za,ze,rfl,o1,o2,hb⟩
    obtain ⟨za1,za2,rfl⟩:=Oq o1
    obtain ⟨ze1,ze2,rfl⟩:=Oq o2
    have HZ1y3:=Hj (Bytes.row (F:=[]) o1 rfl (fun f hf=>by cases hf))
    have HZ2y3:=Hj (Bytes.row (F:=[]) o2 rfl (fun f hf=>by cases hf))
    clear o1 o2
    have HRy3:=Hj (Kb hb HRy2.out)
    have HKy3:=Hj (Kb hb HKy2.out)
    have HVy3:=Hj (Kb hb HVy2.out)
    have HWy3:=Hj (Kb hb HWy2.out)
    have HNy3:=Hj (Kb hb HNy2.out)
    have HOay3:=Hj (Kb hb HOay2.out)
    have HOby3:=Hj (Kb hb HOby2.out)
    have HPay3:=Hj (Kb hb HPay2.out)
    have HPby3:=Hj (Kb hb HPby2.out)
    have HJ1y3:=Hj (Rb HJ1y2.out hb)
    have HJ2y3:=Hj (Rb HJ2y2.out hb)
    have HJ3y3:=Hj (Rb HJ3y2.out hb)
    have HJ4y3:=Hj (Rb HJ4y2.out hb)
    have HG1y3:=Hj (Rb HG1y2.out hb)
    have HG2y3:=Hj (Rb HG2y2.out hb)
    have HG3y3:=Hj (Rb HG3y2.out hb)
    have HG4y3:=Hj (Rb HG4y2.out hb)
    have HU3:=Hj (HU2.out.below HKT.out hb)
    have HSy3:=Hj (same_below' HSy2.out hb)
    clear hb HU2 HRy2 HKy2 HVy2 HWy2 HNy2 HOay2 HOby2 HPay2 HPby2 HJ1y2 HJ2y2 HJ3y2 HJ4y2 HG1y2 HG2y2 HG3y2 HG4y2
    go_wp2
    refine Sm (Ss HSy3.out) ?_
    try simp only[pick,Gs,Gz]
    go_wp2
    refine Rm ?_
    refine Wq ?_
    try simp only[pick,Gs,Gz]
    go_wp2_with fail
    refine (req27_any fb' _ _ _ _ y3 HZ1y3.out HZ2y3.out HG3y3.out HG4y3.out).mono ?_
    rintro e y4 ⟨rfl,hb⟩
    have HRy4:=Hj (Kb hb HRy3.out)
    have HKy4:=Hj (Kb hb HKy3.out)
    have HVy4:=Hj (Kb hb HVy3.out)
    have HWy4:=Hj (Kb hb HWy3.out)
    have HNy4:=Hj (Kb hb HNy3.out)
    have HOay4:=Hj (Kb hb HOay3.out)
    have HOby4:=Hj (Kb hb HOby3.out)
    have HPay4:=Hj (Kb hb HPay3.out)
    have HPby4:=Hj (Kb hb HPby3.out)
    have HJ1y4:=Hj (Rb HJ1y3.out hb)
    have HJ2y4:=Hj (Rb HJ2y3.out hb)
    have HJ3y4:=Hj (Rb HJ3y3.out hb)
    have HJ4y4:=Hj (Rb HJ4y3.out hb)
    have HG1y4:=Hj (Rb HG1y3.out hb)
    have HG2y4:=Hj (Rb HG2y3.out hb)
    have HG3y4:=Hj (Rb HG3y3.out hb)
    have HG4y4:=Hj (Rb HG4y3.out hb)
    have HZ1y4:=Hj (Rb HZ1y3.out hb)
    have HZ2y4:=Hj (Rb HZ2y3.out hb)
    have HU4:=Hj (HU3.out.below HKT.out hb)
    have HSy4:=Hj (same_below' HSy3.out hb)
    clear hb HU3 HRy3 HKy3 HVy3 HWy3 HNy3 HOay3 HOby3 HPay3 HPby3 HJ1y3 HJ2y3 HJ3y3 HJ4y3 HG1y3 HG2y3 HG3y3 HG4y3 HZ1y3 HZ2y3
    go_wp2
    refine Sm (Ss HSy4.out) ?_
    have eV_0:=Bj HVy4.out 0 rfl
    have eV_1:=Bj HVy4.out 1 rfl
    have eW_0:=Bj HWy4.out 0 rfl
    have eW_1:=Bj HWy4.out 1 rfl
    try simp only[pick,Gs,Gz]
    go_wp2
    clear eV_0 eV_1
    clear eW_0 eW_1
    refine Rm ?_
    refine Wd (by rfl) ⟨.head _,.tail _ (.tail _ (.head _)),.tail _ (.head _),.tail _ (.tail _ (.tail _ (.head _))),.tail _ (.tail _ (.tail _ (.tail _ (.head _)))),.tail _ (.tail _ (.tail _ (.tail _ (.tail _ (.head _))))),trivial⟩ ?_
    go_wp2_with (first | refine wpList_load_row rfl 36 _ rfl N rfl 36 (RUL rr.x ver2 img2.length t2) (0,0) _ HNy4.out Tryz.underlying36 rfl (by kernel_rfl) ?_ | refine wpList_store_row rfl 36 _ _ rfl R (RUL rr.x ver2 img2.length t2) rfl rfl 36 (RUL x ver img.length t) HRy4.out (by kernel_rfl) rfl (by kernel_rfl) ?_)
    go_simp
    go_meet
    case rel=>
     obtain ⟨w30,hw⟩:∃W,W=y4.setRow R (RUL rr.x ver2 img2.length t2):=⟨_,rfl⟩
     rw[←hw]
     have hk:Keep [R] y4 w30:=by rw[hw];exact keep_setRow _ _ _
     have hu:=(HU4.out.put HKT.out rfl (by simp) qR (RUL.box HRy4.out) hk).less HKT.out (L':=[K,R]) (fun z hz=>by simp only[List.mem_cons,List.not_mem_nil,or_false] at hz⊢;omega)
     exact ⟨rr.x,img2,ver2,t2,HTI.out,by rw[hw];exact setRow_heap _ _ _ _ _ _ HRy4.out,(hk.block K (Al HKy4.out) (by simp;omega)).trans HKy4.out,hu.imp (fun F w h=>⟨h.2,h.1.1.1.1.2⟩)⟩
  case rest=>
   as_aux_lemma=>
   obtain ⟨x2,img2,ver2,t2,hT2,hR2,hK2,hU2⟩:=hcut
   obtain ⟨w20,hw20⟩:∃W,W=wc:=⟨_,rfl⟩
   rw[←hw20] at hR2 hK2 hU2⊢
   have HR20:=Hj hR2;have HK20:=Hj hK2;have HU20:=Hj hU2;have HT2:=Hj hT2
   have HKQ:=Hj (PS.kept x2 img2 ver2 t2 c xk imk vk tk)
   have hl2:ver2≤k+1∧x2.led.length≤k+1:=⟨hT2.2.1,hT2.2.2.2.1⟩
   clear hw20 wc hR2 hK2 hU2 hT2 HU14 HR14 HK14 HC14 HKP
   obtain ⟨F,hF,hP,_,_⟩:=HU20.out.open
   obtain ⟨base,g,hh,iv,rv,lv,hat⟩:=ULG.at HU20.out
   have HAT:=Hj hat
   have HPV:=Hj (RUV.nil hP.1)
   clear hF hP hat
   go_wp2_with (refine wpList_load_row rfl 36 _ rfl R rfl 36 (RUL x2 ver2 img2.length t2) (0,0) _ HR20.out Tryz.underlying36 rfl (by kernel_rfl) ?_)
   refine (same31_any HAT.out _ (show x2.led.length≤1000 by omega) HPV.out).mono ?_
   rintro e w21 ⟨rfl,hb⟩
   have HR21:=Hj (Kb hb HR20.out)
   have HK21:=Hj (Kb hb HK20.out)
   have HU21:=Hj (HU20.out.below HKQ.out hb)
   clear hb HU20 HR20 HK20 HAT HPV
   go_wp2_with fail
   refine (ull_version HU21.out.ull).mono ?_
   rintro e w' ⟨he,rfl⟩
   replace he:e= .returned (.int .i64 (ver2:Int)):=he
   subst he
   go_wp2_with fail
   refine (ull_number HU21.out.ull).mono ?_
   rintro e w' ⟨he,rfl⟩
   replace he:e= .returned (.int .i64 ((ver2:Int)+1)):=by rw[he,HT2.out.1]
   subst he
   by_cases hi:Int.tmod at_ 30=(k:Int)
   rotate_left
   ·have hi2:¬at_%30=(k:Int):=by rwa [Int.tmod_eq_emod_of_nonneg ha1] at hi
    have hi3:¬(k:Int)=at_%30:=fun h=>hi2 h.symm
    have hi4:¬(k:Int)=Int.tmod at_ 30:=fun h=>hi h.symm
    go_wp2
    go_roundw
    case rel=>exact ⟨k+1,x2,img2,ver2,t2,c,xk,imk,vk,tk,by omega,by go_num,rfl,HT2.out,HXK.out,HR21.out,HK21.out,HU21.out⟩
    case measure=>simp[intOf];omega
   have hi2:at_%30=(k:Int):=by rwa [Int.tmod_eq_emod_of_nonneg ha1] at hi
   go_upto_region 36 with (fail)
   clear hi hi2
   have hBl:∀q∈[R],∃cc e f,w21.heap[q]? =some (.cells cc e f):=fun q hq=>by rw[M1' hq];exact ⟨_,_,_,HR21.out⟩
   refine Ty.wp_tree [R] [2] [] [2] [0,2] (.alt [1,3] (.alt [4] (.done) (.no)) (.no)) (by kernel_rfl) (by kernel_rfl) (by kernel_rfl) (by kernel_rfl) hBl ?_
   obtain ⟨y0,hy⟩:∃y,y=w21.drew:=⟨_,rfl⟩
   have HS0:Hid (SameB [R] y0 y0):=Hj (by rw[hy];exact same_start hBl)
   clear hBl
   rw[←hy]
   have hd:Below w21.heap.size w21 y0:=by rw[hy];exact (Br _ _).drew
   have HU0:=Hj (HU21.out.below HKQ.out hd)
   have HRy0:=Hj (Kb hd HR21.out)
   have HKy0:=Hj (Kb hd HK21.out)
   clear hy hd HU21 HR21 HK21
   try simp only[pick,Gs,Gz]
   go_wp2_with (refine wpList_load_row rfl 36 _ rfl R rfl 36 (RUL x2 ver2 img2.length t2) (0,0) _ HRy0.out Tryz.underlying36 rfl (by kernel_rfl) ?_)
   refine Rm ?_
   refine Wq ?_
   try simp only[pick,Gs,Gz]
   go_wp2_with fail
   refine (ulg_clone HU0.out HKQ.out rfl (show x2.led.length≤1000 by omega)).mono ?_
   rintro e y1 ⟨c2,rfl,hu,hb⟩
   have HU1:=Hj hu
   have HKS:=Hj (Kept.and HKQ.out (UC.kept (x:=x2) (s:=⟨img2,ver2,false,[],0⟩) c2))
   have HS1:=Hj (same_below' HS0.out hb)
   have HRy1:=Hj (Kb hb HRy0.out)
   have HKy1:=Hj (Kb hb HKy0.out)
   clear hu hb HU0 HRy0 HKy0
   go_wp2
   refine Sm (Ss HS1.out) ?_
   try simp only[pick,Gs,Gz]
   go_wp2
   refine Rm ?_
   refine Wq ?_
   try simp only[pick,Gs,Gz]
   go_wp2_with (refine wpList_store_row rfl 36 _ _ rfl K (RUL x2 ver2 img2.length t2) rfl rfl 36 (RUL xk vk imk.length tk) HKy1.out (by kernel_rfl) rfl (by kernel_rfl) ?_)
   obtain ⟨y2,hy⟩:∃W,W=y1.setRow K (RUL x2 ver2 img2.length t2):=⟨_,rfl⟩
   rw[←hy]
   have hk':Keep [K] y1 y2:=by rw[hy];exact keep_setRow _ _ _
   have HKy2:Hid (y2.heap[K]? =some (.cells (RUL x2 ver2 img2.length t2) 36 (0,0))):=Hj (by rw[hy];exact setRow_heap _ _ _ _ _ _ HKy1.out)
   have HRy2:=Hj ((hk'.block R (Al HRy1.out) (by simp;omega)).trans HRy1.out)
   have HS2:=Hj (same_keepR HS1.out hk' (by intro q hq;simp only[List.mem_cons,List.not_mem_nil,or_false] at hq;omega))
   have HU2:=Hj (HU1.out.put HKS.out rfl (by simp) qK (RUL.box HKy1.out) hk')
   clear hy hk' HU1 HRy1 HKy1
   refine Sm (Ss HS2.out) ?_
   try simp only[pick,Gs,Gz]
   go_wp2
   refine Rm ?_
   refine Wd (by rfl) ⟨.head _,trivial⟩ ?_
   go_wp2
   go_roundw
   case rel=>exact ⟨k+1,x2,img2,ver2,t2,c2,x2,img2,ver2,t2,by omega,by go_num,rfl,HT2.out,by omega,HRy2.out,HKy2.out,HU2.out.imp (fun F w h=>⟨h.1.1,h.2,h.1.1⟩)⟩
   case measure=>simp[intOf];omega
end Go.Proofs.YtipiofgdjbogiaaGreat
