/- the reference's plans: Valid, Hits -/
import Derived.Test.YtipiofgdjbogiaaGreatM5
import Derived.Deep.CutRange
set_option maxRecDepth 100000
set_option maxHeartbeats 4000000
namespace Go.Proofs.YtipiofgdjbogiaaGreat
open Go.Txt Go.RowKit Go.Bs Go.Cl Go.Rw Go.Un Go.Im Go.Fa
theorem in_any (n l m:Int) (w:World):Calls Tryz.prog 133 #[.int .i64 n,.int .i64 l,.int .i64 m] w fun e w'=>e= .returned (.bool (inR n l m))∧w=w':=by
 unfold inR
 by_cases h1:l≤n
 ·by_cases h2:n≤m
  ·rw[decide_eq_true h1,decide_eq_true h2]
   go_enter Tryz.func133,Tryz.ntmps133
   go_wp2
   go_ret
   exact ⟨rfl,rfl⟩
  rw[decide_eq_true h1,decide_eq_false h2]
  go_enter Tryz.func133,Tryz.ntmps133
  go_wp2
  go_ret
  exact ⟨rfl,rfl⟩
 rw[decide_eq_false h1]
 go_enter Tryz.func133,Tryz.ntmps133
 go_wp2
 go_ret
 exact ⟨rfl,rfl⟩
theorem flips_any (n:Int) (w:World):Calls Tryz.prog 134 #[.int .i64 n] w fun e w'=>e= .returned (.bool (inR n 4 7))∧w=w':=by
 go_enter Tryz.func134,Tryz.ntmps134
 go_wp2_with fail
 refine (in_any _ _ _ _).mono ?_
 rintro e' w' ⟨rfl,rfl⟩
 go_wp2
 go_ret
 exact ⟨rfl,rfl⟩
theorem rvalid_0 (p:FP) (h:p.k=0) (w:World):
  Calls Tryz.prog 95 #[.agg p.cs] w fun e w'=>e= .returned (.bool p.ok)∧Below w.heap.size w w':=by
 obtain ⟨c,n,e,k,s,pl,m⟩:=p
 simp only[FP.cs,FP.ok] at*
 subst h
 go_enter Tryz.func95,Tryz.ntmps95
 go_wp2
 all_goals
  go_ret
  exact ⟨rfl,(Br _ w).alloc (Nr _) _⟩
theorem rvalid_1 (p:FP) (ha:1≤p.k) (hb:p.k≤3) (w:World):
  Calls Tryz.prog 95 #[.agg p.cs] w fun e w'=>e= .returned (.bool (inR p.c 1 10&&inR p.n 1 1000000&&(inR p.e 0 1&&inR p.s 0 4000&&(decide (p.pl=0)&&decide (p.m=0)))))∧Below w.heap.size w w':=by
 obtain ⟨c,n,e,k,s,pl,m⟩:=p
 simp only[FP.cs] at*
 have HW:Hid (∀a l m w',Calls Tryz.prog 133 #[.int .i64 a,.int .i64 l,.int .i64 m] w' fun e w''=>e= .returned (.bool (inR a l m))∧w'=w''):=Hj (fun a l m w'=>in_any a l m w')
 have HF:Hid (∀a w',Calls Tryz.prog 134 #[.int .i64 a] w' fun e w''=>e= .returned (.bool (inR a 4 7))∧w'=w''):=Hj (fun a w'=>flips_any a w')
 obtain ⟨u,hu⟩:∃u,u=w.alloc (.cells #[.int .i64 c,.int .i64 n,.int .i64 e,.int .i64 k,.int .i64 s,.int .i64 pl,.int .i64 m] 41):=⟨_,rfl⟩
 have HU:=Hj hu
 have HC:Hid (u.heap[w.heap.size]? =some (.cells #[.int .i64 c,.int .i64 n,.int .i64 e,.int .i64 k,.int .i64 s,.int .i64 pl,.int .i64 m] 41 (0,0))):=Hj (by rw[hu];exact heap_alloc_new w _)
 have HB:Hid (Below w.heap.size w u):=Hj (by rw[hu];exact (Br _ w).alloc (Nr _) _)
 clear hu
 go_enter Tryz.func95,Tryz.ntmps95
 go_upto_region 1 with (fail)
 rw[←HU.out]
 obtain ⟨g,hg⟩:∃g,g=w.heap.size:=⟨_,rfl⟩
 rw[←hg] at HC⊢
 clear hg
 have c0:=Bj HC.out 0 rfl
 have c1:=Bj HC.out 1 rfl
 have c2:=Bj HC.out 2 rfl
 have c3:=Bj HC.out 3 rfl
 have c4:=Bj HC.out 4 rfl
 have c5:=Bj HC.out 5 rfl
 have c6:=Bj HC.out 6 rfl
 have k0:(k==0)=false:=by simp;omega
 go_wp2_with fail
 refine (HW.out _ _ _ _).mono ?_
 rcases Bool.eq_false_or_eq_true (inR c 1 10) with h1 | h1
 rotate_left
 ·rw[h1]
  rintro e' w' ⟨rfl,rfl⟩
  go_wp2
  all_goals
   go_ret
   refine ⟨congrArg (fun b=>Ending.returned (.bool b)) ?_,HB.out⟩
   first
    | (simp[*];done)
    | (symm;simp[*];done)
    | (simp_all;done)
    | (symm;simp_all;done)
    | (simp_all;omega)
    | (symm;simp_all;omega)
    | (by_cases hm0:m=0 <;> simp[*];done)
    | (by_cases hm0:m=0 <;> simp_all;done)
    | (exfalso;trace_state;omega)
 rw[h1]
 rintro e' w' ⟨rfl,rfl⟩
 go_wp2_with fail
 refine (HW.out _ _ _ _).mono ?_
 rcases Bool.eq_false_or_eq_true (inR n 1 1000000) with h2 | h2
 rotate_left
 ·rw[h2]
  rintro e' w' ⟨rfl,rfl⟩
  go_wp2
  all_goals
   go_ret
   refine ⟨congrArg (fun b=>Ending.returned (.bool b)) ?_,HB.out⟩
   first
    | (simp[*];done)
    | (symm;simp[*];done)
    | (simp_all;done)
    | (symm;simp_all;done)
    | (simp_all;omega)
    | (symm;simp_all;omega)
    | (by_cases hm0:m=0 <;> simp[*];done)
    | (by_cases hm0:m=0 <;> simp_all;done)
    | (exfalso;trace_state;omega)
 rw[h2]
 rintro e' w' ⟨rfl,rfl⟩
 go_wp2_with fail
 refine (HW.out _ _ _ _).mono ?_
 rw[show inR k 1 3=true by unfold inR;rw[decide_eq_true (by omega),decide_eq_true (by omega)];rfl]
 rintro e' w' ⟨rfl,rfl⟩
 go_wp2_with fail
 refine (HW.out _ _ _ _).mono ?_
 rcases Bool.eq_false_or_eq_true (inR e 0 1) with h3 | h3
 rotate_left
 ·rw[h3]
  rintro e' w' ⟨rfl,rfl⟩
  go_wp2
  all_goals
   go_ret
   refine ⟨congrArg (fun b=>Ending.returned (.bool b)) ?_,HB.out⟩
   first
    | (simp[*];done)
    | (symm;simp[*];done)
    | (simp_all;done)
    | (symm;simp_all;done)
    | (simp_all;omega)
    | (symm;simp_all;omega)
    | (by_cases hm0:m=0 <;> simp[*];done)
    | (by_cases hm0:m=0 <;> simp_all;done)
    | (exfalso;trace_state;omega)
 rw[h3]
 rintro e' w' ⟨rfl,rfl⟩
 go_wp2_with fail
 refine (HW.out _ _ _ _).mono ?_
 rcases Bool.eq_false_or_eq_true (inR s 0 4000) with h4 | h4
 rotate_left
 ·rw[h4]
  rintro e' w' ⟨rfl,rfl⟩
  go_wp2
  all_goals
   go_ret
   refine ⟨congrArg (fun b=>Ending.returned (.bool b)) ?_,HB.out⟩
   first
    | (simp[*];done)
    | (symm;simp[*];done)
    | (simp_all;done)
    | (symm;simp_all;done)
    | (simp_all;omega)
    | (symm;simp_all;omega)
    | (by_cases hm0:m=0 <;> simp[*];done)
    | (by_cases hm0:m=0 <;> simp_all;done)
    | (exfalso;trace_state;omega)
 rw[h4]
 rintro e' w' ⟨rfl,rfl⟩
 go_wp2
 all_goals
  go_ret
  refine ⟨congrArg (fun b=>Ending.returned (.bool b)) ?_,HB.out⟩
  first
   | (simp[*];done)
   | (symm;simp[*];done)
   | (simp_all;done)
   | (symm;simp_all;done)
   | (simp_all;omega)
   | (symm;simp_all;omega)
   | (by_cases hm0:m=0 <;> simp[*];done)
   | (by_cases hm0:m=0 <;> simp_all;done)
   | (exfalso;trace_state;omega)
theorem rvalid_2 (p:FP) (ha:4≤p.k) (hb:p.k≤7) (w:World):
  Calls Tryz.prog 95 #[.agg p.cs] w fun e w'=>e= .returned (.bool (inR p.c 1 10&&inR p.n 1 1000000&&(inR p.e 0 1&&inR p.pl 0 24000&&inR p.m 1 255&&decide (p.s=0))))∧Below w.heap.size w w':=by
 obtain ⟨c,n,e,k,s,pl,m⟩:=p
 simp only[FP.cs] at*
 have HW:Hid (∀a l m w',Calls Tryz.prog 133 #[.int .i64 a,.int .i64 l,.int .i64 m] w' fun e w''=>e= .returned (.bool (inR a l m))∧w'=w''):=Hj (fun a l m w'=>in_any a l m w')
 have HF:Hid (∀a w',Calls Tryz.prog 134 #[.int .i64 a] w' fun e w''=>e= .returned (.bool (inR a 4 7))∧w'=w''):=Hj (fun a w'=>flips_any a w')
 obtain ⟨u,hu⟩:∃u,u=w.alloc (.cells #[.int .i64 c,.int .i64 n,.int .i64 e,.int .i64 k,.int .i64 s,.int .i64 pl,.int .i64 m] 41):=⟨_,rfl⟩
 have HU:=Hj hu
 have HC:Hid (u.heap[w.heap.size]? =some (.cells #[.int .i64 c,.int .i64 n,.int .i64 e,.int .i64 k,.int .i64 s,.int .i64 pl,.int .i64 m] 41 (0,0))):=Hj (by rw[hu];exact heap_alloc_new w _)
 have HB:Hid (Below w.heap.size w u):=Hj (by rw[hu];exact (Br _ w).alloc (Nr _) _)
 clear hu
 go_enter Tryz.func95,Tryz.ntmps95
 go_upto_region 1 with (fail)
 rw[←HU.out]
 obtain ⟨g,hg⟩:∃g,g=w.heap.size:=⟨_,rfl⟩
 rw[←hg] at HC⊢
 clear hg
 have c0:=Bj HC.out 0 rfl
 have c1:=Bj HC.out 1 rfl
 have c2:=Bj HC.out 2 rfl
 have c3:=Bj HC.out 3 rfl
 have c4:=Bj HC.out 4 rfl
 have c5:=Bj HC.out 5 rfl
 have c6:=Bj HC.out 6 rfl
 have k0:(k==0)=false:=by simp;omega
 go_wp2_with fail
 refine (HW.out _ _ _ _).mono ?_
 rcases Bool.eq_false_or_eq_true (inR c 1 10) with h1 | h1
 rotate_left
 ·rw[h1]
  rintro e' w' ⟨rfl,rfl⟩
  go_wp2
  all_goals
   go_ret
   refine ⟨congrArg (fun b=>Ending.returned (.bool b)) ?_,HB.out⟩
   first
    | (simp[*];done)
    | (symm;simp[*];done)
    | (simp_all;done)
    | (symm;simp_all;done)
    | (simp_all;omega)
    | (symm;simp_all;omega)
    | (by_cases hm0:m=0 <;> simp[*];done)
    | (by_cases hm0:m=0 <;> simp_all;done)
    | (exfalso;trace_state;omega)
 rw[h1]
 rintro e' w' ⟨rfl,rfl⟩
 go_wp2_with fail
 refine (HW.out _ _ _ _).mono ?_
 rcases Bool.eq_false_or_eq_true (inR n 1 1000000) with h2 | h2
 rotate_left
 ·rw[h2]
  rintro e' w' ⟨rfl,rfl⟩
  go_wp2
  all_goals
   go_ret
   refine ⟨congrArg (fun b=>Ending.returned (.bool b)) ?_,HB.out⟩
   first
    | (simp[*];done)
    | (symm;simp[*];done)
    | (simp_all;done)
    | (symm;simp_all;done)
    | (simp_all;omega)
    | (symm;simp_all;omega)
    | (by_cases hm0:m=0 <;> simp[*];done)
    | (by_cases hm0:m=0 <;> simp_all;done)
    | (exfalso;trace_state;omega)
 rw[h2]
 rintro e' w' ⟨rfl,rfl⟩
 go_wp2_with fail
 refine (HW.out _ _ _ _).mono ?_
 rw[show inR k 1 3=false by unfold inR;simp only[Bool.and_eq_false_iff,decide_eq_false_iff_not];omega]
 rintro e' w' ⟨rfl,rfl⟩
 go_wp2_with fail
 refine (HF.out _ _).mono ?_
 rw[show inR k 4 7=true by unfold inR;rw[decide_eq_true (by omega),decide_eq_true (by omega)];rfl]
 rintro e' w' ⟨rfl,rfl⟩
 by_cases h5:s=0
 rotate_left
 ·have h5':(s==0)=false:=by simpa using h5
  go_wp2_with fail
  refine (HW.out _ _ _ _).mono ?_
  rcases Bool.eq_false_or_eq_true (inR e 0 1) with h3 | h3
  rotate_left
  ·rw[h3]
   rintro e' w' ⟨rfl,rfl⟩
   go_wp2
   all_goals
    go_ret
    refine ⟨congrArg (fun b=>Ending.returned (.bool b)) ?_,HB.out⟩
    first
     | (simp[*];done)
     | (symm;simp[*];done)
     | (simp_all;done)
     | (symm;simp_all;done)
     | (simp_all;omega)
     | (symm;simp_all;omega)
     | (by_cases hm0:m=0 <;> simp[*];done)
     | (by_cases hm0:m=0 <;> simp_all;done)
     | (exfalso;trace_state;omega)
  rw[h3]
  rintro e' w' ⟨rfl,rfl⟩
  go_wp2
  all_goals
   go_ret
   refine ⟨congrArg (fun b=>Ending.returned (.bool b)) ?_,HB.out⟩
   first
    | (simp[*];done)
    | (symm;simp[*];done)
    | (simp_all;done)
    | (symm;simp_all;done)
    | (simp_all;omega)
    | (symm;simp_all;omega)
    | (by_cases hm0:m=0 <;> simp[*];done)
    | (by_cases hm0:m=0 <;> simp_all;done)
    | (exfalso;trace_state;omega)
 have h5':(s==0)=true:=by simpa using h5
 go_wp2_with fail
 refine (HW.out _ _ _ _).mono ?_
 rcases Bool.eq_false_or_eq_true (inR e 0 1) with h3 | h3
 rotate_left
 ·rw[h3]
  rintro e' w' ⟨rfl,rfl⟩
  go_wp2
  all_goals
   go_ret
   refine ⟨congrArg (fun b=>Ending.returned (.bool b)) ?_,HB.out⟩
   first
    | (simp[*];done)
    | (symm;simp[*];done)
    | (simp_all;done)
    | (symm;simp_all;done)
    | (simp_all;omega)
    | (symm;simp_all;omega)
    | (by_cases hm0:m=0 <;> simp[*];done)
    | (by_cases hm0:m=0 <;> simp_all;done)
    | (exfalso;trace_state;omega)
 rw[h3]
 rintro e' w' ⟨rfl,rfl⟩
 go_wp2_with fail
 refine (HW.out _ _ _ _).mono ?_
 rcases Bool.eq_false_or_eq_true (inR pl 0 24000) with h4 | h4
 rotate_left
 ·rw[h4]
  rintro e' w' ⟨rfl,rfl⟩
  go_wp2
  all_goals
   go_ret
   refine ⟨congrArg (fun b=>Ending.returned (.bool b)) ?_,HB.out⟩
   first
    | (simp[*];done)
    | (symm;simp[*];done)
    | (simp_all;done)
    | (symm;simp_all;done)
    | (simp_all;omega)
    | (symm;simp_all;omega)
    | (by_cases hm0:m=0 <;> simp[*];done)
    | (by_cases hm0:m=0 <;> simp_all;done)
    | (exfalso;trace_state;omega)
 rw[h4]
 rintro e' w' ⟨rfl,rfl⟩
 go_wp2_with fail
 refine (HW.out _ _ _ _).mono ?_
 rcases Bool.eq_false_or_eq_true (inR m 1 255) with h6 | h6
 rotate_left
 ·rw[h6]
  rintro e' w' ⟨rfl,rfl⟩
  go_wp2
  all_goals
   go_ret
   refine ⟨congrArg (fun b=>Ending.returned (.bool b)) ?_,HB.out⟩
   first
    | (simp[*];done)
    | (symm;simp[*];done)
    | (simp_all;done)
    | (symm;simp_all;done)
    | (simp_all;omega)
    | (symm;simp_all;omega)
    | (by_cases hm0:m=0 <;> simp[*];done)
    | (by_cases hm0:m=0 <;> simp_all;done)
    | (exfalso;trace_state;omega)
 rw[h6]
 rintro e' w' ⟨rfl,rfl⟩
 go_wp2
 all_goals
  go_ret
  refine ⟨congrArg (fun b=>Ending.returned (.bool b)) ?_,HB.out⟩
  first
   | (simp[*];done)
   | (symm;simp[*];done)
   | (simp_all;done)
   | (symm;simp_all;done)
   | (simp_all;omega)
   | (symm;simp_all;omega)
   | (by_cases hm0:m=0 <;> simp[*];done)
   | (by_cases hm0:m=0 <;> simp_all;done)
   | (exfalso;trace_state;omega)
theorem rvalid_3 (p:FP) (ha:8≤p.k) (hb:p.k≤8) (w:World):
  Calls Tryz.prog 95 #[.agg p.cs] w fun e w'=>e= .returned (.bool (inR p.c 1 10&&inR p.n 1 1000000&&(inR p.s 0 4000&&(decide (p.e=0)&&(decide (p.pl=0)&&decide (p.m=0))))))∧Below w.heap.size w w':=by
 obtain ⟨c,n,e,k,s,pl,m⟩:=p
 simp only[FP.cs] at*
 have HW:Hid (∀a l m w',Calls Tryz.prog 133 #[.int .i64 a,.int .i64 l,.int .i64 m] w' fun e w''=>e= .returned (.bool (inR a l m))∧w'=w''):=Hj (fun a l m w'=>in_any a l m w')
 have HF:Hid (∀a w',Calls Tryz.prog 134 #[.int .i64 a] w' fun e w''=>e= .returned (.bool (inR a 4 7))∧w'=w''):=Hj (fun a w'=>flips_any a w')
 obtain ⟨u,hu⟩:∃u,u=w.alloc (.cells #[.int .i64 c,.int .i64 n,.int .i64 e,.int .i64 k,.int .i64 s,.int .i64 pl,.int .i64 m] 41):=⟨_,rfl⟩
 have HU:=Hj hu
 have HC:Hid (u.heap[w.heap.size]? =some (.cells #[.int .i64 c,.int .i64 n,.int .i64 e,.int .i64 k,.int .i64 s,.int .i64 pl,.int .i64 m] 41 (0,0))):=Hj (by rw[hu];exact heap_alloc_new w _)
 have HB:Hid (Below w.heap.size w u):=Hj (by rw[hu];exact (Br _ w).alloc (Nr _) _)
 clear hu
 go_enter Tryz.func95,Tryz.ntmps95
 go_upto_region 1 with (fail)
 rw[←HU.out]
 obtain ⟨g,hg⟩:∃g,g=w.heap.size:=⟨_,rfl⟩
 rw[←hg] at HC⊢
 clear hg
 have c0:=Bj HC.out 0 rfl
 have c1:=Bj HC.out 1 rfl
 have c2:=Bj HC.out 2 rfl
 have c3:=Bj HC.out 3 rfl
 have c4:=Bj HC.out 4 rfl
 have c5:=Bj HC.out 5 rfl
 have c6:=Bj HC.out 6 rfl
 have k0:(k==0)=false:=by simp;omega
 have k8:(k==8)=true:=by simp;omega
 go_wp2_with fail
 refine (HW.out _ _ _ _).mono ?_
 rcases Bool.eq_false_or_eq_true (inR c 1 10) with h1 | h1
 rotate_left
 ·rw[h1]
  rintro e' w' ⟨rfl,rfl⟩
  go_wp2
  all_goals
   go_ret
   refine ⟨congrArg (fun b=>Ending.returned (.bool b)) ?_,HB.out⟩
   first
    | (simp[*];done)
    | (symm;simp[*];done)
    | (simp_all;done)
    | (symm;simp_all;done)
    | (simp_all;omega)
    | (symm;simp_all;omega)
    | (by_cases hm0:m=0 <;> simp[*];done)
    | (by_cases hm0:m=0 <;> simp_all;done)
    | (exfalso;trace_state;omega)
 rw[h1]
 rintro e' w' ⟨rfl,rfl⟩
 go_wp2_with fail
 refine (HW.out _ _ _ _).mono ?_
 rcases Bool.eq_false_or_eq_true (inR n 1 1000000) with h2 | h2
 rotate_left
 ·rw[h2]
  rintro e' w' ⟨rfl,rfl⟩
  go_wp2
  all_goals
   go_ret
   refine ⟨congrArg (fun b=>Ending.returned (.bool b)) ?_,HB.out⟩
   first
    | (simp[*];done)
    | (symm;simp[*];done)
    | (simp_all;done)
    | (symm;simp_all;done)
    | (simp_all;omega)
    | (symm;simp_all;omega)
    | (by_cases hm0:m=0 <;> simp[*];done)
    | (by_cases hm0:m=0 <;> simp_all;done)
    | (exfalso;trace_state;omega)
 rw[h2]
 rintro e' w' ⟨rfl,rfl⟩
 go_wp2_with fail
 refine (HW.out _ _ _ _).mono ?_
 rw[show inR k 1 3=false by unfold inR;simp only[Bool.and_eq_false_iff,decide_eq_false_iff_not];omega]
 rintro e' w' ⟨rfl,rfl⟩
 go_wp2_with fail
 refine (HF.out _ _).mono ?_
 rw[show inR k 4 7=false by unfold inR;simp only[Bool.and_eq_false_iff,decide_eq_false_iff_not];omega]
 rintro e' w' ⟨rfl,rfl⟩
 by_cases h5:e=0
 rotate_left
 ·have h5':(e==0)=false:=by simpa using h5
  go_wp2
  all_goals
   go_ret
   refine ⟨congrArg (fun b=>Ending.returned (.bool b)) ?_,HB.out⟩
   first
    | (simp[*];done)
    | (symm;simp[*];done)
    | (simp_all;done)
    | (symm;simp_all;done)
    | (simp_all;omega)
    | (symm;simp_all;omega)
    | (by_cases hm0:m=0 <;> simp[*];done)
    | (by_cases hm0:m=0 <;> simp_all;done)
    | (exfalso;trace_state;omega)
 have h5':(e==0)=true:=by simpa using h5
 go_wp2_with fail
 refine (HW.out _ _ _ _).mono ?_
 rcases Bool.eq_false_or_eq_true (inR s 0 4000) with h4 | h4
 rotate_left
 ·rw[h4]
  rintro e' w' ⟨rfl,rfl⟩
  go_wp2
  all_goals
   go_ret
   refine ⟨congrArg (fun b=>Ending.returned (.bool b)) ?_,HB.out⟩
   first
    | (simp[*];done)
    | (symm;simp[*];done)
    | (simp_all;done)
    | (symm;simp_all;done)
    | (simp_all;omega)
    | (symm;simp_all;omega)
    | (by_cases hm0:m=0 <;> simp[*];done)
    | (by_cases hm0:m=0 <;> simp_all;done)
    | (exfalso;trace_state;omega)
 rw[h4]
 rintro e' w' ⟨rfl,rfl⟩
 go_wp2
 all_goals
  go_ret
  refine ⟨congrArg (fun b=>Ending.returned (.bool b)) ?_,HB.out⟩
  first
   | (simp[*];done)
   | (symm;simp[*];done)
   | (simp_all;done)
   | (symm;simp_all;done)
   | (simp_all;omega)
   | (symm;simp_all;omega)
   | (by_cases hm0:m=0 <;> simp[*];done)
   | (by_cases hm0:m=0 <;> simp_all;done)
   | (exfalso;trace_state;omega)
theorem rvalid_4 (p:FP) (ha:9≤p.k) (hb:p.k≤9) (w:World):
  Calls Tryz.prog 95 #[.agg p.cs] w fun e w'=>e= .returned (.bool (inR p.c 1 10&&inR p.n 1 1000000&&(decide (p.e=0)&&(decide (p.s=0)&&(decide (p.pl=0)&&decide (p.m=0))))))∧Below w.heap.size w w':=by
 obtain ⟨c,n,e,k,s,pl,m⟩:=p
 simp only[FP.cs] at*
 have HW:Hid (∀a l m w',Calls Tryz.prog 133 #[.int .i64 a,.int .i64 l,.int .i64 m] w' fun e w''=>e= .returned (.bool (inR a l m))∧w'=w''):=Hj (fun a l m w'=>in_any a l m w')
 have HF:Hid (∀a w',Calls Tryz.prog 134 #[.int .i64 a] w' fun e w''=>e= .returned (.bool (inR a 4 7))∧w'=w''):=Hj (fun a w'=>flips_any a w')
 obtain ⟨u,hu⟩:∃u,u=w.alloc (.cells #[.int .i64 c,.int .i64 n,.int .i64 e,.int .i64 k,.int .i64 s,.int .i64 pl,.int .i64 m] 41):=⟨_,rfl⟩
 have HU:=Hj hu
 have HC:Hid (u.heap[w.heap.size]? =some (.cells #[.int .i64 c,.int .i64 n,.int .i64 e,.int .i64 k,.int .i64 s,.int .i64 pl,.int .i64 m] 41 (0,0))):=Hj (by rw[hu];exact heap_alloc_new w _)
 have HB:Hid (Below w.heap.size w u):=Hj (by rw[hu];exact (Br _ w).alloc (Nr _) _)
 clear hu
 go_enter Tryz.func95,Tryz.ntmps95
 go_upto_region 1 with (fail)
 rw[←HU.out]
 obtain ⟨g,hg⟩:∃g,g=w.heap.size:=⟨_,rfl⟩
 rw[←hg] at HC⊢
 clear hg
 have c0:=Bj HC.out 0 rfl
 have c1:=Bj HC.out 1 rfl
 have c2:=Bj HC.out 2 rfl
 have c3:=Bj HC.out 3 rfl
 have c4:=Bj HC.out 4 rfl
 have c5:=Bj HC.out 5 rfl
 have c6:=Bj HC.out 6 rfl
 have k0:(k==0)=false:=by simp;omega
 have k8:(k==8)=false:=by simp;omega
 have k9:(k==9)=true:=by simp;omega
 go_wp2_with fail
 refine (HW.out _ _ _ _).mono ?_
 rcases Bool.eq_false_or_eq_true (inR c 1 10) with h1 | h1
 rotate_left
 ·rw[h1]
  rintro e' w' ⟨rfl,rfl⟩
  go_wp2
  all_goals
   go_ret
   refine ⟨congrArg (fun b=>Ending.returned (.bool b)) ?_,HB.out⟩
   first
    | (simp[*];done)
    | (symm;simp[*];done)
    | (simp_all;done)
    | (symm;simp_all;done)
    | (simp_all;omega)
    | (symm;simp_all;omega)
    | (by_cases hm0:m=0 <;> simp[*];done)
    | (by_cases hm0:m=0 <;> simp_all;done)
    | (exfalso;trace_state;omega)
 rw[h1]
 rintro e' w' ⟨rfl,rfl⟩
 go_wp2_with fail
 refine (HW.out _ _ _ _).mono ?_
 rcases Bool.eq_false_or_eq_true (inR n 1 1000000) with h2 | h2
 rotate_left
 ·rw[h2]
  rintro e' w' ⟨rfl,rfl⟩
  go_wp2
  all_goals
   go_ret
   refine ⟨congrArg (fun b=>Ending.returned (.bool b)) ?_,HB.out⟩
   first
    | (simp[*];done)
    | (symm;simp[*];done)
    | (simp_all;done)
    | (symm;simp_all;done)
    | (simp_all;omega)
    | (symm;simp_all;omega)
    | (by_cases hm0:m=0 <;> simp[*];done)
    | (by_cases hm0:m=0 <;> simp_all;done)
    | (exfalso;trace_state;omega)
 rw[h2]
 rintro e' w' ⟨rfl,rfl⟩
 go_wp2_with fail
 refine (HW.out _ _ _ _).mono ?_
 rw[show inR k 1 3=false by unfold inR;simp only[Bool.and_eq_false_iff,decide_eq_false_iff_not];omega]
 rintro e' w' ⟨rfl,rfl⟩
 go_wp2_with fail
 refine (HF.out _ _).mono ?_
 rw[show inR k 4 7=false by unfold inR;simp only[Bool.and_eq_false_iff,decide_eq_false_iff_not];omega]
 rintro e' w' ⟨rfl,rfl⟩
 go_wp2
 all_goals
  go_ret
  refine ⟨congrArg (fun b=>Ending.returned (.bool b)) ?_,HB.out⟩
  first
   | (simp[*];done)
   | (symm;simp[*];done)
   | (simp_all;done)
   | (symm;simp_all;done)
   | (simp_all;omega)
   | (symm;simp_all;omega)
   | (by_cases hm0:m=0 <;> simp[*];done)
   | (by_cases hm0:m=0 <;> simp_all;done)
   | (exfalso;trace_state;omega)
theorem rvalid_5 (p:FP) (ha:p.k<0∨9<p.k) (w:World):
  Calls Tryz.prog 95 #[.agg p.cs] w fun e w'=>e= .returned (.bool (false))∧Below w.heap.size w w':=by
 obtain ⟨c,n,e,k,s,pl,m⟩:=p
 simp only[FP.cs] at*
 have HW:Hid (∀a l m w',Calls Tryz.prog 133 #[.int .i64 a,.int .i64 l,.int .i64 m] w' fun e w''=>e= .returned (.bool (inR a l m))∧w'=w''):=Hj (fun a l m w'=>in_any a l m w')
 have HF:Hid (∀a w',Calls Tryz.prog 134 #[.int .i64 a] w' fun e w''=>e= .returned (.bool (inR a 4 7))∧w'=w''):=Hj (fun a w'=>flips_any a w')
 obtain ⟨u,hu⟩:∃u,u=w.alloc (.cells #[.int .i64 c,.int .i64 n,.int .i64 e,.int .i64 k,.int .i64 s,.int .i64 pl,.int .i64 m] 41):=⟨_,rfl⟩
 have HU:=Hj hu
 have HC:Hid (u.heap[w.heap.size]? =some (.cells #[.int .i64 c,.int .i64 n,.int .i64 e,.int .i64 k,.int .i64 s,.int .i64 pl,.int .i64 m] 41 (0,0))):=Hj (by rw[hu];exact heap_alloc_new w _)
 have HB:Hid (Below w.heap.size w u):=Hj (by rw[hu];exact (Br _ w).alloc (Nr _) _)
 clear hu
 go_enter Tryz.func95,Tryz.ntmps95
 go_upto_region 1 with (fail)
 rw[←HU.out]
 obtain ⟨g,hg⟩:∃g,g=w.heap.size:=⟨_,rfl⟩
 rw[←hg] at HC⊢
 clear hg
 have c0:=Bj HC.out 0 rfl
 have c1:=Bj HC.out 1 rfl
 have c2:=Bj HC.out 2 rfl
 have c3:=Bj HC.out 3 rfl
 have c4:=Bj HC.out 4 rfl
 have c5:=Bj HC.out 5 rfl
 have c6:=Bj HC.out 6 rfl
 have k0:(k==0)=false:=by simp;omega
 have k8:(k==8)=false:=by simp;omega
 have k9:(k==9)=false:=by simp;omega
 go_wp2_with fail
 refine (HW.out _ _ _ _).mono ?_
 rcases Bool.eq_false_or_eq_true (inR c 1 10) with h1 | h1
 rotate_left
 ·rw[h1]
  rintro e' w' ⟨rfl,rfl⟩
  go_wp2
  all_goals
   go_ret
   refine ⟨congrArg (fun b=>Ending.returned (.bool b)) ?_,HB.out⟩
   first
    | (simp[*];done)
    | (symm;simp[*];done)
    | (simp_all;done)
    | (symm;simp_all;done)
    | (simp_all;omega)
    | (symm;simp_all;omega)
    | (by_cases hm0:m=0 <;> simp[*];done)
    | (by_cases hm0:m=0 <;> simp_all;done)
    | (exfalso;trace_state;omega)
 rw[h1]
 rintro e' w' ⟨rfl,rfl⟩
 go_wp2_with fail
 refine (HW.out _ _ _ _).mono ?_
 rcases Bool.eq_false_or_eq_true (inR n 1 1000000) with h2 | h2
 rotate_left
 ·rw[h2]
  rintro e' w' ⟨rfl,rfl⟩
  go_wp2
  all_goals
   go_ret
   refine ⟨congrArg (fun b=>Ending.returned (.bool b)) ?_,HB.out⟩
   first
    | (simp[*];done)
    | (symm;simp[*];done)
    | (simp_all;done)
    | (symm;simp_all;done)
    | (simp_all;omega)
    | (symm;simp_all;omega)
    | (by_cases hm0:m=0 <;> simp[*];done)
    | (by_cases hm0:m=0 <;> simp_all;done)
    | (exfalso;trace_state;omega)
 rw[h2]
 rintro e' w' ⟨rfl,rfl⟩
 go_wp2_with fail
 refine (HW.out _ _ _ _).mono ?_
 rw[show inR k 1 3=false by unfold inR;simp only[Bool.and_eq_false_iff,decide_eq_false_iff_not];omega]
 rintro e' w' ⟨rfl,rfl⟩
 go_wp2_with fail
 refine (HF.out _ _).mono ?_
 rw[show inR k 4 7=false by unfold inR;simp only[Bool.and_eq_false_iff,decide_eq_false_iff_not];omega]
 rintro e' w' ⟨rfl,rfl⟩
 go_wp2
 all_goals
  go_ret
  refine ⟨congrArg (fun b=>Ending.returned (.bool b)) ?_,HB.out⟩
  first
   | (simp[*];done)
   | (symm;simp[*];done)
   | (simp_all;done)
   | (symm;simp_all;done)
   | (simp_all;omega)
   | (symm;simp_all;omega)
   | (by_cases hm0:m=0 <;> simp[*];done)
   | (by_cases hm0:m=0 <;> simp_all;done)
   | (exfalso;trace_state;omega)
theorem rvalid27_any (p:FP) (w:World):Calls Tryz.prog 95 #[.agg p.cs] w fun e w'=>e= .returned (.bool p.ok)∧Below w.heap.size w w':=by
 by_cases h0:p.k=0
 ·exact rvalid_0 p h0 w
 by_cases h9:p.k<0∨9<p.k
 ·have:=rvalid_5 p h9 w
  rwa [show p.ok=false from by
   have hk:inR p.k 1 9=false:=by unfold inR;simp;omega
   unfold FP.ok;rw[if_neg h0,hk];simp]
 have hk9:0≤p.k∧p.k≤9:=by omega
 have hk:inR p.k 1 9=true:=by unfold inR;rw[decide_eq_true (by omega),decide_eq_true (by omega)];rfl
 by_cases h3:p.k≤3
 ·have:=rvalid_1 p (by omega) h3 w
  unfold FP.ok;rw[if_neg h0,if_pos h3,hk,Bool.and_true];exact this
 by_cases h7:p.k≤7
 ·have:=rvalid_2 p (by omega) h7 w
  unfold FP.ok;rw[if_neg h0,if_neg h3,if_pos h7,hk,Bool.and_true];exact this
 by_cases h8:p.k=8
 ·have:=rvalid_3 p (by omega) (by omega) w
  unfold FP.ok;rw[if_neg h0,if_neg h3,if_neg h7,if_pos h8,hk,Bool.and_true];exact this
 have:=rvalid_4 p (by have:=hk9.2;omega) (by have:=hk9.2;omega) w
 unfold FP.ok;rw[if_neg h0,if_neg h3,if_neg h7,if_neg h8,hk,Bool.and_true];exact this
theorem rhits_any (p:FP) (c n a:Int) (w:World):
  Calls Tryz.prog 97 #[.agg p.cs,.int .i64 c,.int .i64 n,.int .i64 a] w fun e w'=>e= .returned (.bool (p.hits c n a))∧Below w.heap.size w w':=by
 have hV:=rvalid27_any p
 obtain ⟨pc,pn,pe,pk,ps,ppl,pm⟩:=p
 simp only[FP.cs,FP.hits] at*
 obtain ⟨u,hu⟩:∃u,u=w.alloc (.cells #[.int .i64 pc,.int .i64 pn,.int .i64 pe,.int .i64 pk,.int .i64 ps,.int .i64 ppl,.int .i64 pm] 41):=⟨_,rfl⟩
 have HU:=Hj hu
 have HC:Hid (u.heap[w.heap.size]? =some (.cells #[.int .i64 pc,.int .i64 pn,.int .i64 pe,.int .i64 pk,.int .i64 ps,.int .i64 ppl,.int .i64 pm] 41 (0,0))):=Hj (by rw[hu];exact heap_alloc_new w _)
 have HB:Hid (Below w.heap.size w u):=Hj (by rw[hu];exact (Br _ w).alloc (Nr _) _)
 have HV:=Hj hV
 clear hu hV
 go_enter Tryz.func97,Tryz.ntmps97
 go_upto_region 1 with (fail)
 rw[←HU.out]
 obtain ⟨g,hg⟩:∃g,g=w.heap.size:=⟨_,rfl⟩
 rw[←hg] at HC⊢
 have hlt:=(Al HC.out)
 clear hg
 have c0:=Bj HC.out 0 rfl
 have c1:=Bj HC.out 1 rfl
 have c2:=Bj HC.out 2 rfl
 have c3:=Bj HC.out 3 rfl
 have c4:=Bj HC.out 4 rfl
 have c5:=Bj HC.out 5 rfl
 have c6:=Bj HC.out 6 rfl
 go_wp2_with fail
 refine (HV.out _).mono ?_
 rintro e w1 ⟨rfl,hb1⟩
 have d0:=Bo ((hb1.block g hlt).trans HC.out) (j:=0) rfl
 have d1:=Bo ((hb1.block g hlt).trans HC.out) (j:=1) rfl
 have d3:=Bo ((hb1.block g hlt).trans HC.out) (j:=3) rfl
 have HB1:=Hj (HB.out.trans (hb1.mono HB.out.size))
 clear hb1 c0 c1 c2 c3 c4 c5 c6
 cases hv:FP.ok ⟨pc,pn,pe,pk,ps,ppl,pm⟩
 ·go_wp2
  go_ret
  exact ⟨by simp[hv],HB1.out⟩
 go_wp2
 all_goals
  go_ret
  refine ⟨congrArg (fun b=>Ending.returned (.bool b)) ?_,HB1.out⟩
  first
   | (symm;simp[hv];omega)
   | (symm;simp only[hv,Bool.true_and,Bool.and_eq_false_iff,decide_eq_false_iff_not];omega)
   | (simp[hv];omega)
   | (rw[hv];simp;done)
   | (rw[hv];cases h1:(pk != 0) <;> cases h2:(a==1) <;> simp_all;done)
end Go.Proofs.YtipiofgdjbogiaaGreat
