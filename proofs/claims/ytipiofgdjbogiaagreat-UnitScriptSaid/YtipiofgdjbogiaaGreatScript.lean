/-
 'ratoonlaw31.UnitScript' returns true for every input,and its arguments read afterwards as before;no condition.
-/
import Derived.Test.YtipiofgdjbogiaaGreatYo
set_option maxRecDepth 100000
namespace Go.Proofs.YtipiofgdjbogiaaGreat.unitScript
open Go.ChangeShapes Go.WideShapes Go.ChangeAt Go.RowKit Go.Bs Go.Rw Go.Rd Go.Un Go.Im Go.Fa Go.Wi
theorem contract (H:Type) (enc:TypeId×Value→H) (W:World) (base:Nat) (args:Array Value) (ds gs:List (DataW H)) (before:List MemPlace) (hsz:(DataW.weightsEach Tryz.prog (Tryz.f3.params.toList++Rows.unitScriptSpec.plain.varTypes Tryz.prog) (ds++gs)).all (·≤reachBytes)=true)
  (hval0:∀(j:Nat) t v,Tryz.f3.params[j]? =some t→args[j]? =some v→Value.okWide Tryz.prog W .any base t v)
  (hW:DataW.Whole enc Tryz.prog Tryz.f3.params.toList Rows.unitScriptSpec.vars false W args.toList ds gs before):
  Calls Tryz.prog 3 args W fun e W'=>∃v,e= .returned v∧Rows.unitScriptSpec.post enc Tryz.prog Tryz.f3 false true false false W args v W':=by
 have hval:=hval0
 have hW':=hW
 obtain ⟨p,q,hA0,hV,rfl,hfz,hnd⟩:=hW
 have hA:DataW.TrodAll enc Tryz.prog W 0 (fun _=>true) true Tryz.f3.params.toList args.toList ds p:=hA0
 rw[Tryz.params3] at hA hval
 obtain ⟨v0,vs0,d0,ds0,p0,q0,hargs,rfl,rfl,h0,r0⟩:=trodAll_cons hA
 obtain ⟨v1,vs1,d1,ds1,p1,q1,rfl,rfl,rfl,h1,r1⟩:=trodAll_cons r0
 obtain ⟨v2,vs2,d2,ds2,p2,q2,rfl,rfl,rfl,h2,r2⟩:=trodAll_cons r1
 obtain ⟨rfl,rfl,rfl⟩:=trodAll_nil r2
 obtain rfl:args=#[v0,v1,v2]:=by cases args;simp_all
 obtain ⟨rfl,rfl⟩:=trodVars_none hV
 have L:∀{t v d p},DataW.Trod enc Tryz.prog W 0 (fun _=>true) true t v d p→∀x∈p,x.block<W.heap.size:=fun ⟨m,hm⟩=>DataW.trod_lt m _ _ _ hm
 have k0:=h0;have k1:=h1;have k2:=h2
 have hw0:∀n∈d0.weights Tryz.prog 22,n≤reachBytes:=fun n hn=>by
  have:=List.all_eq_true.1 hsz n (DataW.weights_mem_each (j:=0) (t:=22) (d:=d0) rfl rfl n hn)
  simpa using this
 obtain ⟨im,hI⟩:=read_by (hval 0 22 v0 rfl rfl) h0
 have hil:im.length≤reachBytes:=by
  obtain ⟨fuel,hf⟩:=h0
  obtain ⟨a,c,rfl⟩:=Rs hI
  exact slice_reach rfl hI hf hw0
 have hw1:∀n∈d1.weights Tryz.prog 23,n≤reachBytes:=fun n hn=>by
  have:=List.all_eq_true.1 hsz n (DataW.weights_mem_each (j:=1) (t:=23) (d:=d1) rfl rfl n hn)
  simpa using this
 obtain ⟨ks,hK,hk⟩:=read_calls (hval 1 23 v1 rfl rfl) h1 hw1
 obtain ⟨at_,rfl,rfl,rfl,hwf⟩:=open_int Tryz.underlying5 (hval 2 5 v2 rfl rfl) h2
 have hat:0≤at_∧at_≤255:=by
  obtain ⟨b,rfl⟩:=byte_wf hwf
  have:=b.toNat_lt
  omega
 refine (script_any im ks at_ v0 v1 W hil hat.1 hat.2 hI hK hk).mono fun e W' ⟨he,bel⟩=> ?_
 subst he
 exact ⟨_,rfl,_,_,_,[],_,[],hW',trodAll_mk1 (shut_bool Tryz.underlying4 _),(trodAll_cons_mk (Below.trod Tryz.laidOut (by kernel_rfl) (of_decide_eq_true (by kernel_rfl)) k0 bel (L k0)) (trodAll_cons_mk (Below.trod Tryz.laidOut (by kernel_rfl) (of_decide_eq_true (by kernel_rfl)) k1 bel (L k1)) (trodAll_cons_mk (Below.trod Tryz.laidOut (by kernel_rfl) (of_decide_eq_true (by kernel_rfl)) k2 bel (L k2)) trodAll_mk0))),rfl,bel.frame _,fun h=>by cases h⟩
theorem lifted (os:Os) (started:os.Started) (H:Type) (enc:TypeId×Value→H):
  ReturnsInHanded {} Tryz.checked os 3 .any (Rows.unitScriptSpec.pre6 enc Tryz.prog Tryz.f3 Rows.unitScriptRow.domain false) (Rows.unitScriptSpec.post enc Tryz.prog Tryz.f3 false true false false):=by
 refine returnsInHanded_of_change_sized (C:=Tryz.checked) Tryz.own started (by kernel_rfl) Tryz.func3
  (ChangeSpec.witness6 (enc:=enc) (C:=Tryz.checked) false ⟨#[],#[.slice none 0 0,.slice none 0 0,.int .u8 0],[]⟩ 8 (by kernel_rfl) (by kernel_rfl) (by kernel_rfl) (by kernel_rfl)) ?_
 intro W base args ds gs before hval hW hcnd hsz _
 exact contract H enc W base args ds gs before hsz hval hW
theorem proved:Rows.UnitScriptSaid:=
 OpenClaim.holds_of_wide 3 Tryz.f3 rfl rfl rfl rfl rfl rfl rfl ⟨rfl,rfl,rfl,rfl,rfl⟩ rfl rfl rfl rfl rfl (by kernel_rfl) Tryz.func3 (by kernel_rfl)
  (of_decide_eq_true (by kernel_rfl)) (by unfold Func.isWrapper;first | (rw[if_pos (by decide+kernel)];kernel_rfl) | (rw[if_neg (by decide+kernel)];exact ⟨rfl,rfl⟩))
  (fun os started H enc _=>lifted os started H enc)
end Go.Proofs.YtipiofgdjbogiaaGreat.unitScript
