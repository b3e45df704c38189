/- the reference's store: model, New, Left, Commit, Abort, Sum -/
import Derived.Test.YtipiofgdjbogiaaGreatM3
import Derived.Test.YtipiofgdjbogiaaGreatKd
import Derived.Test.YtipiofgdjbogiaaGreatVz
set_option maxHeartbeats 1000000
namespace Go.Im
open Go Go.Txt Go.RowKit Go.Bs Go.Cl Go.Rw Go.Un
structure Rf where
 image:List UInt8
 working:List UInt8
 next:List UInt8
 ver:Nat
 inst:Bool
 rz:Bool
 todo:List (Nat×List UInt8)
def Rf.left (m:Rf):Nat:=m.todo.length+if m.rz then 1 else 0
def rfNew (b:List UInt8):Rf:=⟨b,b,[],0,false,false,[]⟩
def rfBegin (m:Rf) (b:List UInt8):Rf×Nat×Int:=
 if m.inst then (m,0,7) else ({m with next:=b,inst:=true,rz:=decide (b.length≠m.image.length),todo:=dif m.image b},(dif m.image b).length+(if b.length≠m.image.length then 1 else 0),0)
def rfStep (m:Rf):Rf×Nat×Int:=
 if m.inst=false∨m.left=0 then (m,0,7) else
 if m.rz then ({m with working:=sized m.working m.next.length,rz:=false},m.todo.length,0) else
 match m.todo with
 | []=>(m,0,7)
 | c::t=>({m with working:=Un.written m.working (c.1*128) c.2,todo:=t},t.length,0)
def rfCommit (m:Rf):Rf×Int:=if m.inst=false∨0<m.left then (m,7) else (⟨m.next,m.next,[],m.ver+1,false,false,[]⟩,0)
structure Rf.Good (m:Rf):Prop where
 il:m.image.length≤24000
 wl:m.working.length≤24000
 nl:m.next.length≤24000
 tl:m.todo.length≤1000
 vl:m.ver≤1000000
 fit:m.rz=false→m.inst=true→m.working.length=m.next.length
 td:m.inst=true→∀c∈m.todo,c.1*128+c.2.length≤m.next.length
def RV (F:List Nat) (w:World) (v:Value) (m:Rf):Prop:=
 ∃iv wv nv tv,v= .agg #[iv,wv,nv,.int .i64 m.ver,.bool m.inst,.bool m.rz,tv]∧Bytes F w iv m.image∧Bytes F w wv m.working∧Bytes F w nv m.next∧ChR F w tv m.todo
theorem ChR.below {F:List Nat} {w w':World} {v:Value} {l:List (Nat×List UInt8)} (h:ChR F w v l) (hb:Below w.heap.size w w'):ChR F w' v l:=by
 obtain ⟨cs,h1,h2,h3⟩:=h
 exact ⟨cs,h1,Rb h2 hb,fun p hp=>Rb (h3 p hp) hb⟩
theorem ChR.keep {F F' G:List Nat} {w w':World} {v:Value} {l:List (Nat×List UInt8)} (h:ChR F w v l) (hk:Keep G w w') (hG:∀f∈G,f∈F∨w.heap.size≤f) (hF:∀f∈F',f∈F∨w.heap.size≤f):ChR F' w' v l:=by
 obtain ⟨cs,h1,h2,h3⟩:=h
 exact ⟨cs,h1,Raw.keep h2 hk hG hF,fun p hp=>Raw.keep (h3 p hp) hk hG hF⟩
theorem ChR.empty (F:List Nat) (w:World):ChR F w (.slice none 0 0) []:=⟨[],rfl,Raw.empty _ _ _,fun p hp=>by cases hp⟩
theorem ChR.slice {F:List Nat} {w:World} {v:Value} {l:List (Nat×List UInt8)} (h:ChR F w v l):∃a c,v= .slice a l.length c:=by
 obtain ⟨cs,rfl,h2,_⟩:=h
 obtain ⟨a,c,rfl⟩:=Rs h2
 exact ⟨a,c,by simp⟩
theorem RV.below {F:List Nat} {w w':World} {v:Value} {m:Rf} (h:RV F w v m) (hb:Below w.heap.size w w'):RV F w' v m:=by
 obtain ⟨iv,wv,nv,tv,rfl,h1,h2,h3,h4⟩:=h
 exact ⟨iv,wv,nv,tv,rfl,Rb h1 hb,Rb h2 hb,Rb h3 hb,h4.below hb⟩
theorem RV.keep {F F' G:List Nat} {w w':World} {v:Value} {m:Rf} (h:RV F w v m) (hk:Keep G w w') (hG:∀f∈G,f∈F∨w.heap.size≤f) (hF:∀f∈F',f∈F∨w.heap.size≤f):RV F' w' v m:=by
 obtain ⟨iv,wv,nv,tv,rfl,h1,h2,h3,h4⟩:=h
 exact ⟨iv,wv,nv,tv,rfl,Raw.keep h1 hk hG hF,Raw.keep h2 hk hG hF,Raw.keep h3 hk hG hF,h4.keep hk hG hF⟩
end Go.Im
namespace Go.Proofs.YtipiofgdjbogiaaGreat
open Go.Txt Go.RowKit Go.Bs Go.Cl Go.Rw Go.Un Go.Im
def RE (F:List Nat) (w:World) (m:Rf) (n:Int) (e:Ending) (w':World):Prop:=∃v,e= .returned (.tuple #[v,.int .i64 n])∧RV F w' v m∧Below w.heap.size w w'
def RN (F:List Nat) (w:World) (m:Rf) (n:Nat) (k:Int) (e:Ending) (w':World):Prop:=∃v,e= .returned (.tuple #[v,.int .i64 n,.int .i64 k])∧RV F w' v m∧Below w.heap.size w w'
theorem rleft_any {F:List Nat} (v:Value) (m:Rf) (w:World) (hg:m.todo.length≤1000) (h:RV F w v m):
  Calls Tryz.prog 112 #[v] w fun e w'=>e= .returned (.int .i64 m.left)∧Below w.heap.size w w':=by
 obtain ⟨image,working,next,ver,inst,rz,todo⟩:=m
 obtain ⟨iv,wv,nv,tv,rfl,h1,h2,h3,h4⟩:=h
 obtain ⟨ta,tc,rfl⟩:=h4.slice
 have al:=(Br w.heap.size w).alloc (Nr _) (.cells #[iv,wv,nv,.int .i64 ver,.bool inst,.bool rz,.slice ta todo.length tc] 32)
 simp only at hg al⊢
 clear h1 h2 h3 h4
 cases rz
 all_goals
  go_enter Tryz.func112,Tryz.ntmps112
  go_wp2
  go_ret
  exact ⟨rfl,al⟩
end Go.Proofs.YtipiofgdjbogiaaGreat
