/- UnitScript: the arguments read -/
import Derived.Test.YtipiofgdjbogiaaGreatYk
set_option maxRecDepth 100000
set_option maxHeartbeats 4000000
namespace Go.Rd
open Go Go.ChangeShapes Go.WideShapes Go.ChangeAt Go.RowKit Go.Bs Go.Deep Go.Joins Go.Rw Go.Cl
variable {H:Type} {enc:TypeId×Value→H} {P:Program} {W:World}
theorem weights_all {e:TypeId}:∀{l:List (DataW H)} {x:DataW H} {n:Nat},x∈l→n∈x.weights P e→n∈DataW.weightsAll P e l
 | d::r,x,n,h,hn=>by
  simp only[DataW.weightsAll]
  rcases List.mem_cons.1 h with rfl | h
  ·exact List.mem_append_left _ hn
  exact List.mem_append_right _ (weights_all h hn)
theorem read_slice3w {B:Nat} {α:Type} {t e k:Nat} {rd:α→List Value} (hk:P.cellsOf e=k) (hk0:0<k) (ht:P.underlying t=some (.slice e))
  (helem:∀(fuel:Nat) (cs:List Value) (x:DataW H×List MemPlace),DataW.trod enc P W 0 (fun _=>true) true fuel e cs=some x→(∀n∈x.1.weights P e,n≤B)→∃y:α,cs=rd y)
  {a0:Option Addr} {len cap:Nat} {d:DataW H} {p:List MemPlace} (h:DataW.Trod enc P W 0 (fun _=>true) true t (.slice a0 len cap) d p) (hw:∀n∈d.weights P t,n≤B):
  len≤cap∧cap≤maxLen∧∃l:List α,l.length=len∧(0<len→∃b off,a0=some ⟨b,off,none⟩∧b<W.heap.size∧∀i (y:α),l[i]? =some y→∀j,j<k→W.cell? ⟨b,off+i*k+j,none⟩=(rd y)[j]?):=by
 obtain ⟨fuel,hf⟩:=h
 rcases open_slice ht hf with ⟨hcs,_⟩ | ⟨a,len',cap',m,n,D,Pl,hcs,_,hl,hm,hmm,hd,hel⟩
 ·simp[Value.cells] at hcs
  obtain ⟨rfl,rfl,rfl⟩:=hcs
  exact ⟨Nr _,Nat.zero_le _,[],rfl,fun h=>by omega⟩
 simp[Value.cells] at hcs
 obtain ⟨rfl,rfl,rfl⟩:=hcs
 simp only[if_true] at hmm
 subst hmm
 have hsub:∀i,i<len→∀n∈(D i).weights P e,n∈d.weights P t:=by
  intro i hi n hn
  cases hd
  simp only[DataW.weights,ht]
  exact List.mem_cons_of_mem _ (List.mem_append_left _ (weights_all (List.mem_map_of_mem (List.mem_range.2 hi)) hn))
 have hex:∀i,∃y:Option α,i<len→∃z,y=some z∧W.cells? 0 (a.add (i*k)) k=some (rd z):=by
  intro i
  by_cases hi:i<len
  ·obtain ⟨cs',h1,h2⟩:=hel i (by omega)
   obtain ⟨y,rfl⟩:=helem _ _ _ h2 (fun n hn=>hw n (hsub i hi n hn))
   rw[hk] at h1
   exact ⟨some y,fun _=>⟨y,rfl,h1⟩⟩
  exact ⟨none,fun h=>absurd h hi⟩
 have hex2:∀n,n≤len→∃l:List α,l.length=n∧∀i y,l[i]? =some y→W.cells? 0 (a.add (i*k)) k=some (rd y):=by
  intro n
  induction n with
  | zero=>intro _;exact ⟨[],rfl,fun i y h=>by simp at h⟩
  | succ n ih=>
   intro hn
   obtain ⟨l,hl1,hl2⟩:=ih (by omega)
   obtain ⟨y,hy⟩:=hex n
   obtain ⟨z,rfl,hz⟩:=hy (by omega)
   refine ⟨l++[z],by simp[hl1],fun i y h=> ?_⟩
   by_cases hi:i<l.length
   ·rw[List.getElem?_append_left hi] at h;exact hl2 i y h
   rw[List.getElem?_append_right (by omega)] at h
   have:i=n:=by
    rcases Nat.lt_or_ge (i - l.length) 1 with h' | h'
    ·omega
    simp[List.getElem?_eq_none (show [z].length≤i - l.length by simpa using h')] at h
   subst this
   simp[hl1] at h
   rw[←h];exact hz
 obtain ⟨l,hl1,hl2⟩:=hex2 len (Nr _)
 refine ⟨hl,hm,l,hl1,fun h0=> ?_⟩
 obtain ⟨y0,hy0⟩:∃y,l[0]? =some y:=⟨l[0],by simp[hl1,h0]⟩
 have hc0:=(cells_at (hl2 0 y0 hy0)).2 0 hk0
 obtain ⟨b,off,spot⟩:=a
 have hr0:∃v,(rd y0)[0]? =some v:=by
  have:=(cells_at (hl2 0 y0 hy0)).1
  exact ⟨(rd y0)[0]'(by omega),by simp⟩
 obtain ⟨v0,hv0⟩:=hr0
 rw[hv0] at hc0
 have hspot:spot=none:=by simpa[Addr.add] using World.cell?_spot hc0
 subst hspot
 have hb:b<W.heap.size:=by simpa[Addr.add] using World.block_lt_of_cell? W _ hc0
 refine ⟨b,off,rfl,hb,fun i y hi j hj=> ?_⟩
 have:=(cells_at (hl2 i y hi)).2 j hj
 have e:(({block:=b,off:=off,spot:=none}:Addr).add (i*k)).add j=⟨b,off+i*k+j,none⟩:=by
  unfold Addr.add
  split <;> split <;> simp_all
 rw[e] at this
 exact this
theorem read_csw {B:Nat} {α:Type} {t e k:Nat} {rd:α→List Value} {Rl:α→Prop} (hk:P.cellsOf e=k) (hk0:0<k) (hrk:∀x,(rd x).length=k) (ht:P.underlying t=some (.slice e)) (hone:∀y,Rl y→∀u∈rd y,u.oneCell'=true)
  (helem:∀(fuel:Nat) (cs:List Value) (x:DataW H×List MemPlace),DataW.trod enc P W 0 (fun _=>true) true fuel e cs=some x→(∀n∈x.1.weights P e,n≤B)→∃y:α,cs=rd y∧Rl y)
  {fuel:Nat} {cs:List Value} {x:DataW H×List MemPlace} (h:DataW.trod enc P W 0 (fun _=>true) true fuel t cs=some x) (hw:∀n∈x.1.weights P t,n≤B):
  ∃(v:Value) (l:List α),cs=[v]∧Raw [] k W v l.length (l.flatMap rd)∧∀y∈l,Rl y:=by
 have hcs:∃a len cap,cs=[.slice a len cap]:=by
  rcases open_slice ht h with ⟨hcs,_⟩ | ⟨a,len',cap',m,n,D,Pl,hcs,_⟩
  ·exact ⟨_,_,_,hcs⟩
  exact ⟨_,_,_,hcs⟩
 obtain ⟨a0,len,cap,rfl⟩:=hcs
 have hT:DataW.Trod enc P W 0 (fun _=>true) true t (.slice a0 len cap) x.1 x.2:=⟨fuel,by simpa[Value.cells] using h⟩
 obtain ⟨h1,h2,l,hl,hh⟩:=read_slice3w (α:={y:α // Rl y}) (rd:=fun y=>rd y.1) hk hk0 ht (B:=B) (fun fuel cs x hx hx2=>by
  obtain ⟨y,hy,hr⟩:=helem fuel cs x hx hx2
  exact ⟨⟨y,hr⟩,hy⟩) hT hw
 refine ⟨_,l.map (·.1),rfl, ?_,fun y hy=> ?_⟩
 ·refine ⟨by rw[flat_length rd hrk],fun u hu=> ?_,a0,cap,by rw[List.length_map,hl],by rw[List.length_map,hl];exact h1,h2,fun h0=> ?_⟩
  ·obtain ⟨y,hy,hu⟩:=List.mem_flatMap.1 hu
   obtain ⟨z,_,rfl⟩:=List.mem_map.1 hy
   exact hone _ z.2 u hu
  obtain ⟨b,off,rfl,hb,hc⟩:=hh (by rw[List.length_map,hl] at h0;exact h0)
  refine ⟨b,off,rfl,hb,fun hm=>(by cases hm),fun j u hj=> ?_⟩
  obtain ⟨y,hy,hu,hd,hm,he⟩:=flat_cell rd hrk hk0 hj
  rw[List.getElem?_map] at hy
  cases hz:l[j / k]? with
  | none=>rw[hz] at hy;cases hy
  | some z=>
   rw[hz] at hy
   simp only[Option.map_some,Option.some.injEq] at hy
   have:=hc (j / k) z hz (j%k) hm
   rw[hy,hu] at this
   rw[show off+j=off+j / k*k+j%k by omega]
   exact this
 obtain ⟨z,_,rfl⟩:=List.mem_map.1 hy
 exact z.2
theorem read_valw {B:Nat} {α:Type} {t e k:Nat} {rd:α→List Value} {Rl:α→Prop} (hk:P.cellsOf e=k) (hk0:0<k) (hrk:∀x,(rd x).length=k) (ht:P.underlying t=some (.slice e)) (hone:∀y,Rl y→∀u∈rd y,u.oneCell'=true)
  (helem:∀(fuel:Nat) (cs:List Value) (x:DataW H×List MemPlace),DataW.trod enc P W 0 (fun _=>true) true fuel e cs=some x→(∀n∈x.1.weights P e,n≤B)→∃y:α,cs=rd y∧Rl y)
  {base:Nat} {v:Value} {d:DataW H} {p:List MemPlace} (hv:Value.okWide P W .any base t v) (h:DataW.Trod enc P W 0 (fun _=>true) true t v d p) (hw:∀n∈d.weights P t,n≤B):
  ∃l:List α,Raw [] k W v l.length (l.flatMap rd)∧∀y∈l,Rl y:=by
 obtain ⟨a,len,cap,rfl⟩:=okWide_slice ht hv
 obtain ⟨fuel,hf⟩:=h
 obtain ⟨v,l,hcs,h1,h2⟩:=read_csw hk hk0 hrk ht hone helem hf hw
 simp[Value.cells] at hcs
 subst hcs
 exact ⟨l,h1,h2⟩
end Go.Rd
namespace Go.Im
open Go Go.Txt Go.RowKit Go.Bs Go.Cl Go.Rw Go.Fa
structure Kl where
 op:Int
 mode:Int
 p:FP
 ms:Int
 md:Int
 mt:Int
 mq:Int
 m0:Int
 m1:Int
 m2:Int
 m3:Int
 dv:Value
 d:List UInt8
 a:Oc
 ai:Value
 ae:Value
 b:Oc
 bi:Value
 be:Value
 pm:Bool
def encK (x:Kl):List Value:=[.int .i64 x.op,.int .i64 x.mode,.int .i64 x.p.c,.int .i64 x.p.n,.int .i64 x.p.e,.int .i64 x.p.k,.int .i64 x.p.s,.int .i64 x.p.pl,.int .i64 x.p.m,.int .i64 x.ms,.int .i64 x.md,.int .i64 x.mt,.int .i64 x.mq,.int .i64 x.m0,.int .i64 x.m1,.int .i64 x.m2,.int .i64 x.m3,x.dv,.int .i64 x.a.en,.int .i64 x.a.st,.int .i64 x.a.er,x.ai,x.ae,.int .i64 x.b.en,.int .i64 x.b.st,.int .i64 x.b.er,x.bi,x.be,.bool x.pm]
theorem encK_len (x:Kl):(encK x).length=29:=rfl
def Kl.ok (w:World) (x:Kl):Prop:=Bytes [] w x.dv x.d∧Bytes [] w x.ai x.a.im∧Bytes [] w x.ae x.a.ef∧Bytes [] w x.bi x.b.im∧Bytes [] w x.be x.b.ef∧(∀y∈[x.ms,x.md,x.mt,x.mq,x.m0,x.m1,x.m2,x.m3],Wi.fits y)∧x.d.length≤reachBytes∧x.a.im.length≤reachBytes∧x.a.ef.length≤reachBytes∧x.b.im.length≤reachBytes∧x.b.ef.length≤reachBytes
def SlK (w:World) (v:Value) (l:List Kl):Prop:=Raw [] 29 w v l.length (l.flatMap encK)
theorem kl_one {w:World} {r:Kl} (h:r.ok w):∀u∈encK r,u.oneCell'=true:=by
 intro u hu
 obtain ⟨q1,q2,q3,q4,q5,_⟩:=h
 obtain ⟨_,_,h1⟩:=Rs q1
 obtain ⟨_,_,h2⟩:=Rs q2
 obtain ⟨_,_,h3⟩:=Rs q3
 obtain ⟨_,_,h4⟩:=Rs q4
 obtain ⟨_,_,h5⟩:=Rs q5
 simp[encK] at hu
 rcases hu with rfl | rfl | rfl | rfl | rfl | rfl | rfl | rfl | rfl | rfl | rfl | rfl | rfl | rfl | rfl | rfl | rfl | rfl | rfl | rfl | rfl | rfl | rfl | rfl | rfl | rfl | rfl | rfl | rfl
 all_goals first | rfl | (rw[h1];rfl) | (rw[h2];rfl) | (rw[h3];rfl) | (rw[h4];rfl) | (rw[h5];rfl)
theorem SlK.elem {w:World} {a:Option Addr} {n c:Nat} {l:List Kl} (h:SlK w (.slice a n c) l) {k:Nat} {x:Kl} (hk:l[k]? =some x):
  ∃b off,a=some ⟨b,off,none⟩∧b<w.heap.size∧∀j u,(encK x)[j]? =some u→w.cell? ⟨b,off+(k*29+j),none⟩=some u:=by
 have hlt:k<l.length:=(List.getElem?_eq_some_iff.1 hk).1
 rcases Raw.cases h with ⟨h0,_⟩ | ⟨_,b,off,cap,hv,_,_,hb,_,hc⟩
 ·omega
 cases hv
 refine ⟨b,off,rfl,hb,fun j u hu=>hc _ _ ?_⟩
 rw[←hu]
 have hj:j<29:=by
  have:=(List.getElem?_eq_some_iff.1 hu).1
  rwa [encK_len] at this
 exact flat_get encK encK_len l k j _ hk hj
end Go.Im
namespace Go.Proofs.YtipiofgdjbogiaaGreat
open Go.ChangeShapes Go.WideShapes Go.ChangeAt Go.RowKit Go.Bs Go.Cl Go.Rw Go.Rd Go.Deep Go.Joins Go.Fa Go.Im
theorem Tryz.own:ownKnob Tryz.prog.godebug=none:=by kernel_rfl
theorem Tryz.laidOut:laidOutB Tryz.prog=true:=by kernel_rfl
theorem Tryz.cells3':Tryz.prog.cellsOf 3=1:=by kernel_rfl
theorem Tryz.cells4':Tryz.prog.cellsOf 4=1:=by kernel_rfl
theorem Tryz.cells5':Tryz.prog.cellsOf 5=1:=by kernel_rfl
theorem Tryz.cells22':Tryz.prog.cellsOf 22=1:=by kernel_rfl
theorem Tryz.cells27':Tryz.prog.cellsOf 27=1:=by kernel_rfl
theorem Tryz.cells49':Tryz.prog.cellsOf 49=29:=by kernel_rfl
theorem read_by {H:Type} {enc:TypeId×Value→H} {W:World} {base:Nat} {v:Value} {d:DataW H} {p:List MemPlace} (hv:Value.okWide Tryz.prog W .any base 22 v)
  (h:DataW.Trod enc Tryz.prog W 0 (fun _=>true) true 22 v d p):∃l:List UInt8,Bytes [] W v l:=read_bytes Tryz.cells5' Tryz.underlying22 Tryz.underlying5 hv h
theorem Tryz.bytes5:Tryz.prog.bytesOf 5=1:=by kernel_rfl
theorem slice_reach {H:Type} {enc:TypeId×Value→H} {W:World} {fuel:Nat} {cs:List Value} {v:Value} {l:List UInt8} {y:DataW H×List MemPlace} (hv:cs=[v]) (hb:Bytes [] W v l) (h:DataW.trod enc Tryz.prog W 0 (fun _=>true) true fuel 22 cs=some y) (hw:∀n∈y.1.weights Tryz.prog 22,n≤reachBytes):l.length≤reachBytes:=by
 obtain ⟨a,c,rfl⟩:=Rs hb
 subst hv
 rcases open_slice Tryz.underlying22 h with ⟨hcs,_⟩ | ⟨a',len',cap',m,n,D,Pl,hcs,_,_,_,_,rfl,_⟩
 ·simp at hcs
  rw[hcs.2.1];exact Nat.zero_le _
 simp at hcs
 obtain ⟨_,h1,_⟩:=hcs
 have:=hw _ (by simp only[DataW.weights,Tryz.underlying22];exact .head _)
 rw[Tryz.bytes5] at this
 simp at this
 omega
theorem call_of {H:Type} {enc:TypeId×Value→H} {W:World} (fuel:Nat) (cs:List Value) (x:DataW H×List MemPlace) (hf:DataW.trod enc Tryz.prog W 0 (fun _=>true) true fuel 49 cs=some x) (hw:∀n∈x.1.weights Tryz.prog 49,n≤reachBytes):∃y:Kl,cs=encK y∧y.ok W:=by
 obtain ⟨d,p⟩:=x
 obtain ⟨_,_,_,_,hl,_⟩:=DataW.trod_struct Tryz.underlying49 hf
 rw[Tryz.cells49'] at hl
 match cs,hl with
 | [c0,c1,c2,c3,c4,c5,c6,c7,c8,c9,c10,c11,c12,c13,c14,c15,c16,c17,c18,c19,c20,c21,c22,c23,c24,c25,c26,c27,c28],_=>
  have g0:=Rl.trod_leaf (e:=3) (o:=0) [0] (by kernel_rfl) (by kernel_rfl) (by rw[Tryz.cells49'];exact Nat.le_of_ble_eq_true rfl) hf
  rw[Tryz.cells3'] at g0
  obtain ⟨_,_,g0,_⟩:=g0
  obtain ⟨k0,e0,_,_⟩:=DataW.trod_int Tryz.underlying3 g0
  simp at e0
  have g1:=Rl.trod_leaf (e:=3) (o:=1) [1] (by kernel_rfl) (by kernel_rfl) (by rw[Tryz.cells49'];exact Nat.le_of_ble_eq_true rfl) hf
  rw[Tryz.cells3'] at g1
  obtain ⟨_,_,g1,_⟩:=g1
  obtain ⟨k1,e1,_,w1⟩:=DataW.trod_int Tryz.underlying3 g1
  simp at e1
  have g2:=Rl.trod_leaf (e:=3) (o:=2) [2,0] (by kernel_rfl) (by kernel_rfl) (by rw[Tryz.cells49'];exact Nat.le_of_ble_eq_true rfl) hf
  rw[Tryz.cells3'] at g2
  obtain ⟨_,_,g2,_⟩:=g2
  obtain ⟨k2,e2,_,_⟩:=DataW.trod_int Tryz.underlying3 g2
  simp at e2
  have g3:=Rl.trod_leaf (e:=3) (o:=3) [2,1] (by kernel_rfl) (by kernel_rfl) (by rw[Tryz.cells49'];exact Nat.le_of_ble_eq_true rfl) hf
  rw[Tryz.cells3'] at g3
  obtain ⟨_,_,g3,_⟩:=g3
  obtain ⟨k3,e3,_,_⟩:=DataW.trod_int Tryz.underlying3 g3
  simp at e3
  have g4:=Rl.trod_leaf (e:=3) (o:=4) [2,2] (by kernel_rfl) (by kernel_rfl) (by rw[Tryz.cells49'];exact Nat.le_of_ble_eq_true rfl) hf
  rw[Tryz.cells3'] at g4
  obtain ⟨_,_,g4,_⟩:=g4
  obtain ⟨k4,e4,_,_⟩:=DataW.trod_int Tryz.underlying3 g4
  simp at e4
  have g5:=Rl.trod_leaf (e:=3) (o:=5) [2,3] (by kernel_rfl) (by kernel_rfl) (by rw[Tryz.cells49'];exact Nat.le_of_ble_eq_true rfl) hf
  rw[Tryz.cells3'] at g5
  obtain ⟨_,_,g5,_⟩:=g5
  obtain ⟨k5,e5,_,_⟩:=DataW.trod_int Tryz.underlying3 g5
  simp at e5
  have g6:=Rl.trod_leaf (e:=3) (o:=6) [2,4] (by kernel_rfl) (by kernel_rfl) (by rw[Tryz.cells49'];exact Nat.le_of_ble_eq_true rfl) hf
  rw[Tryz.cells3'] at g6
  obtain ⟨_,_,g6,_⟩:=g6
  obtain ⟨k6,e6,_,_⟩:=DataW.trod_int Tryz.underlying3 g6
  simp at e6
  have g7:=Rl.trod_leaf (e:=3) (o:=7) [2,5] (by kernel_rfl) (by kernel_rfl) (by rw[Tryz.cells49'];exact Nat.le_of_ble_eq_true rfl) hf
  rw[Tryz.cells3'] at g7
  obtain ⟨_,_,g7,_⟩:=g7
  obtain ⟨k7,e7,_,_⟩:=DataW.trod_int Tryz.underlying3 g7
  simp at e7
  have g8:=Rl.trod_leaf (e:=3) (o:=8) [2,6] (by kernel_rfl) (by kernel_rfl) (by rw[Tryz.cells49'];exact Nat.le_of_ble_eq_true rfl) hf
  rw[Tryz.cells3'] at g8
  obtain ⟨_,_,g8,_⟩:=g8
  obtain ⟨k8,e8,_,_⟩:=DataW.trod_int Tryz.underlying3 g8
  simp at e8
  have g9:=Rl.trod_leaf (e:=3) (o:=9) [3,0] (by kernel_rfl) (by kernel_rfl) (by rw[Tryz.cells49'];exact Nat.le_of_ble_eq_true rfl) hf
  rw[Tryz.cells3'] at g9
  obtain ⟨_,_,g9,_⟩:=g9
  obtain ⟨k9,e9,_,w9⟩:=DataW.trod_int Tryz.underlying3 g9
  simp at e9
  have g10:=Rl.trod_leaf (e:=3) (o:=10) [3,1] (by kernel_rfl) (by kernel_rfl) (by rw[Tryz.cells49'];exact Nat.le_of_ble_eq_true rfl) hf
  rw[Tryz.cells3'] at g10
  obtain ⟨_,_,g10,_⟩:=g10
  obtain ⟨k10,e10,_,w10⟩:=DataW.trod_int Tryz.underlying3 g10
  simp at e10
  have g11:=Rl.trod_leaf (e:=3) (o:=11) [3,2] (by kernel_rfl) (by kernel_rfl) (by rw[Tryz.cells49'];exact Nat.le_of_ble_eq_true rfl) hf
  rw[Tryz.cells3'] at g11
  obtain ⟨_,_,g11,_⟩:=g11
  obtain ⟨k11,e11,_,w11⟩:=DataW.trod_int Tryz.underlying3 g11
  simp at e11
  have g12:=Rl.trod_leaf (e:=3) (o:=12) [3,3] (by kernel_rfl) (by kernel_rfl) (by rw[Tryz.cells49'];exact Nat.le_of_ble_eq_true rfl) hf
  rw[Tryz.cells3'] at g12
  obtain ⟨_,_,g12,_⟩:=g12
  obtain ⟨k12,e12,_,w12⟩:=DataW.trod_int Tryz.underlying3 g12
  simp at e12
  have g13:=Rl.trod_leaf (e:=3) (o:=13) [3,4,0] (by kernel_rfl) (by kernel_rfl) (by rw[Tryz.cells49'];exact Nat.le_of_ble_eq_true rfl) hf
  rw[Tryz.cells3'] at g13
  obtain ⟨_,_,g13,_⟩:=g13
  obtain ⟨k13,e13,_,w13⟩:=DataW.trod_int Tryz.underlying3 g13
  simp at e13
  have g14:=Rl.trod_leaf (e:=3) (o:=14) [3,4,1] (by kernel_rfl) (by kernel_rfl) (by rw[Tryz.cells49'];exact Nat.le_of_ble_eq_true rfl) hf
  rw[Tryz.cells3'] at g14
  obtain ⟨_,_,g14,_⟩:=g14
  obtain ⟨k14,e14,_,w14⟩:=DataW.trod_int Tryz.underlying3 g14
  simp at e14
  have g15:=Rl.trod_leaf (e:=3) (o:=15) [3,4,2] (by kernel_rfl) (by kernel_rfl) (by rw[Tryz.cells49'];exact Nat.le_of_ble_eq_true rfl) hf
  rw[Tryz.cells3'] at g15
  obtain ⟨_,_,g15,_⟩:=g15
  obtain ⟨k15,e15,_,w15⟩:=DataW.trod_int Tryz.underlying3 g15
  simp at e15
  have g16:=Rl.trod_leaf (e:=3) (o:=16) [3,4,3] (by kernel_rfl) (by kernel_rfl) (by rw[Tryz.cells49'];exact Nat.le_of_ble_eq_true rfl) hf
  rw[Tryz.cells3'] at g16
  obtain ⟨_,_,g16,_⟩:=g16
  obtain ⟨k16,e16,_,w16⟩:=DataW.trod_int Tryz.underlying3 g16
  simp at e16
  have g17:=Rl.trod_leaf (e:=22) (o:=17) [3,5] (by kernel_rfl) (by kernel_rfl) (by rw[Tryz.cells49'];exact Nat.le_of_ble_eq_true rfl) hf
  rw[Tryz.cells22'] at g17
  obtain ⟨_,_,g17,u17⟩:=g17
  obtain ⟨v17,l17,e17,b17⟩:=read_bytes_cs Tryz.cells5' Tryz.underlying22 Tryz.underlying5 g17
  have z17:=slice_reach e17 b17 g17 (fun n hn=>hw n (u17 n hn))
  simp at e17
  have g18:=Rl.trod_leaf (e:=3) (o:=18) [4,0,0] (by kernel_rfl) (by kernel_rfl) (by rw[Tryz.cells49'];exact Nat.le_of_ble_eq_true rfl) hf
  rw[Tryz.cells3'] at g18
  obtain ⟨_,_,g18,_⟩:=g18
  obtain ⟨k18,e18,_,_⟩:=DataW.trod_int Tryz.underlying3 g18
  simp at e18
  have g19:=Rl.trod_leaf (e:=3) (o:=19) [4,0,1] (by kernel_rfl) (by kernel_rfl) (by rw[Tryz.cells49'];exact Nat.le_of_ble_eq_true rfl) hf
  rw[Tryz.cells3'] at g19
  obtain ⟨_,_,g19,_⟩:=g19
  obtain ⟨k19,e19,_,_⟩:=DataW.trod_int Tryz.underlying3 g19
  simp at e19
  have g20:=Rl.trod_leaf (e:=27) (o:=20) [4,0,2] (by kernel_rfl) (by kernel_rfl) (by rw[Tryz.cells49'];exact Nat.le_of_ble_eq_true rfl) hf
  rw[Tryz.cells27'] at g20
  obtain ⟨_,_,g20,_⟩:=g20
  obtain ⟨k20,e20,_,_⟩:=DataW.trod_int Tryz.underlying27 g20
  simp at e20
  have g21:=Rl.trod_leaf (e:=22) (o:=21) [4,0,3] (by kernel_rfl) (by kernel_rfl) (by rw[Tryz.cells49'];exact Nat.le_of_ble_eq_true rfl) hf
  rw[Tryz.cells22'] at g21
  obtain ⟨_,_,g21,u21⟩:=g21
  obtain ⟨v21,l21,e21,b21⟩:=read_bytes_cs Tryz.cells5' Tryz.underlying22 Tryz.underlying5 g21
  have z21:=slice_reach e21 b21 g21 (fun n hn=>hw n (u21 n hn))
  simp at e21
  have g22:=Rl.trod_leaf (e:=22) (o:=22) [4,0,4] (by kernel_rfl) (by kernel_rfl) (by rw[Tryz.cells49'];exact Nat.le_of_ble_eq_true rfl) hf
  rw[Tryz.cells22'] at g22
  obtain ⟨_,_,g22,u22⟩:=g22
  obtain ⟨v22,l22,e22,b22⟩:=read_bytes_cs Tryz.cells5' Tryz.underlying22 Tryz.underlying5 g22
  have z22:=slice_reach e22 b22 g22 (fun n hn=>hw n (u22 n hn))
  simp at e22
  have g23:=Rl.trod_leaf (e:=3) (o:=23) [4,1,0] (by kernel_rfl) (by kernel_rfl) (by rw[Tryz.cells49'];exact Nat.le_of_ble_eq_true rfl) hf
  rw[Tryz.cells3'] at g23
  obtain ⟨_,_,g23,_⟩:=g23
  obtain ⟨k23,e23,_,_⟩:=DataW.trod_int Tryz.underlying3 g23
  simp at e23
  have g24:=Rl.trod_leaf (e:=3) (o:=24) [4,1,1] (by kernel_rfl) (by kernel_rfl) (by rw[Tryz.cells49'];exact Nat.le_of_ble_eq_true rfl) hf
  rw[Tryz.cells3'] at g24
  obtain ⟨_,_,g24,_⟩:=g24
  obtain ⟨k24,e24,_,_⟩:=DataW.trod_int Tryz.underlying3 g24
  simp at e24
  have g25:=Rl.trod_leaf (e:=27) (o:=25) [4,1,2] (by kernel_rfl) (by kernel_rfl) (by rw[Tryz.cells49'];exact Nat.le_of_ble_eq_true rfl) hf
  rw[Tryz.cells27'] at g25
  obtain ⟨_,_,g25,_⟩:=g25
  obtain ⟨k25,e25,_,_⟩:=DataW.trod_int Tryz.underlying27 g25
  simp at e25
  have g26:=Rl.trod_leaf (e:=22) (o:=26) [4,1,3] (by kernel_rfl) (by kernel_rfl) (by rw[Tryz.cells49'];exact Nat.le_of_ble_eq_true rfl) hf
  rw[Tryz.cells22'] at g26
  obtain ⟨_,_,g26,u26⟩:=g26
  obtain ⟨v26,l26,e26,b26⟩:=read_bytes_cs Tryz.cells5' Tryz.underlying22 Tryz.underlying5 g26
  have z26:=slice_reach e26 b26 g26 (fun n hn=>hw n (u26 n hn))
  simp at e26
  have g27:=Rl.trod_leaf (e:=22) (o:=27) [4,1,4] (by kernel_rfl) (by kernel_rfl) (by rw[Tryz.cells49'];exact Nat.le_of_ble_eq_true rfl) hf
  rw[Tryz.cells22'] at g27
  obtain ⟨_,_,g27,u27⟩:=g27
  obtain ⟨v27,l27,e27,b27⟩:=read_bytes_cs Tryz.cells5' Tryz.underlying22 Tryz.underlying5 g27
  have z27:=slice_reach e27 b27 g27 (fun n hn=>hw n (u27 n hn))
  simp at e27
  have g28:=Rl.trod_leaf (e:=4) (o:=28) [5] (by kernel_rfl) (by kernel_rfl) (by rw[Tryz.cells49'];exact Nat.le_of_ble_eq_true rfl) hf
  rw[Tryz.cells4'] at g28
  obtain ⟨_,_,g28,_⟩:=g28
  obtain ⟨k28,e28,_⟩:=DataW.trod_bool Tryz.underlying4 g28
  simp at e28
  have f9:Wi.fits k9:=by simpa[Wi.fits,Lit.wf,IntKind.min,IntKind.max,IntKind.signed,IntKind.bits] using w9
  have f10:Wi.fits k10:=by simpa[Wi.fits,Lit.wf,IntKind.min,IntKind.max,IntKind.signed,IntKind.bits] using w10
  have f11:Wi.fits k11:=by simpa[Wi.fits,Lit.wf,IntKind.min,IntKind.max,IntKind.signed,IntKind.bits] using w11
  have f12:Wi.fits k12:=by simpa[Wi.fits,Lit.wf,IntKind.min,IntKind.max,IntKind.signed,IntKind.bits] using w12
  have f13:Wi.fits k13:=by simpa[Wi.fits,Lit.wf,IntKind.min,IntKind.max,IntKind.signed,IntKind.bits] using w13
  have f14:Wi.fits k14:=by simpa[Wi.fits,Lit.wf,IntKind.min,IntKind.max,IntKind.signed,IntKind.bits] using w14
  have f15:Wi.fits k15:=by simpa[Wi.fits,Lit.wf,IntKind.min,IntKind.max,IntKind.signed,IntKind.bits] using w15
  have f16:Wi.fits k16:=by simpa[Wi.fits,Lit.wf,IntKind.min,IntKind.max,IntKind.signed,IntKind.bits] using w16
  have hft:∀y∈[k9,k10,k11,k12,k13,k14,k15,k16],Wi.fits y:=by
   intro y hy
   simp only[List.mem_cons,List.not_mem_nil,or_false] at hy
   rcases hy with rfl | rfl | rfl | rfl | rfl | rfl | rfl | rfl <;> assumption
  exact ⟨⟨k0,k1,⟨k2,k3,k4,k5,k6,k7,k8⟩,k9,k10,k11,k12,k13,k14,k15,k16,v17,l17,⟨k18,k19,k20,l21,l22⟩,v21,v22,⟨k23,k24,k25,l26,l27⟩,v26,v27,k28⟩,by simp[encK,e0,e1,e2,e3,e4,e5,e6,e7,e8,e9,e10,e11,e12,e13,e14,e15,e16,e17,e18,e19,e20,e21,e22,e23,e24,e25,e26,e27,e28],b17,b21,b22,b26,b27,hft,z17,z21,z22,z26,z27⟩
theorem read_calls {H:Type} {enc:TypeId×Value→H} {W:World} {base:Nat} {v:Value} {d:DataW H} {p:List MemPlace} (hv:Value.okWide Tryz.prog W .any base 23 v)
  (h:DataW.Trod enc Tryz.prog W 0 (fun _=>true) true 23 v d p) (hw:∀n∈d.weights Tryz.prog 23,n≤reachBytes):∃l:List Kl,SlK W v l∧∀y∈l,y.ok W:=read_valw (rd:=encK) (Rl:=fun y=>y.ok W) Tryz.cells49' (by omega) encK_len Tryz.underlying23 (fun y h=>kl_one h) call_of hv h hw
end Go.Proofs.YtipiofgdjbogiaaGreat
