/- UnitScript: same -/
import Derived.Test.YtipiofgdjbogiaaGreatYj
import Derived.Test.YtipiofgdjbogiaaGreatHk
set_option maxRecDepth 100000
set_option maxHeartbeats 8000000
namespace Go.Lg
end Go.Lg
namespace Go.Proofs.YtipiofgdjbogiaaGreat
open Go.Txt Go.RowKit Go.Bs Go.Cl Go.Rw Go.Un Go.Im Go.Fa Go.Wi Go.Lg
theorem same31_any {base u g h:Nat} {iv0 rv0 lv0:Value} {x:Us} {s:Ps} {w:World} (H:UAt w base u g h iv0 rv0 lv0 x s) (v:Value) (hll:x.led.length≤1000) (hv:RUV [] w v x s.image s.ver):
  Calls Tryz.prog 22 #[.pointer (some ⟨u,0,none⟩),v] w fun e w'=>e= .returned (.bool true)∧Below w.heap.size w w':=by
 obtain ⟨iv,wv,nv,tv,lv,rfl,hiv,hwv,hnv,htv,hlv⟩:=hv
 obtain ⟨ia,ic,rfl⟩:=Rs hiv
 obtain ⟨wa,wc,rfl⟩:=Rs hwv
 obtain ⟨na,nc,rfl⟩:=Rs hnv
 obtain ⟨ta,tc,rfl⟩:=htv.slice
 obtain ⟨la,lc,rfl⟩:=Rs hlv
 simp only[RUc,List.length_nil] at hnv htv⊢
 have HIV:=Hj hiv;have HWV:=Hj hwv;have HNV:=Hj hnv;have HTV:=Hj htv;have HLV:=Hj hlv
 clear hiv hwv hnv htv hlv
 have HH0:=Hj H
 clear H
 obtain ⟨w1,hw1⟩:∃W,W=w.alloc (.cells #[.int .i64 x.task,.slice ia s.image.length ic,.slice wa s.image.length wc,.slice na 0 nc,.int .i64 s.ver,.bool false,.bool false,.slice ta 0 tc,.slice la x.led.length lc,.int .i64 x.num,.int .i64 x.att,.int .i64 x.i0,.int .i64 x.i1,.int .i64 x.gr,.bool x.down,.int .i64 x.lost] 36):=⟨_,rfl⟩
 have z1:w1.heap.size=w.heap.size+1:=by rw[hw1];simp
 have b1:Below w.heap.size w w1:=by rw[hw1];exact (Br _ w).alloc (Nr _) _
 have n1:w1.heap[w.heap.size]? =some (.cells #[.int .i64 x.task,.slice ia s.image.length ic,.slice wa s.image.length wc,.slice na 0 nc,.int .i64 s.ver,.bool false,.bool false,.slice ta 0 tc,.slice la x.led.length lc,.int .i64 x.num,.int .i64 x.att,.int .i64 x.i0,.int .i64 x.i1,.int .i64 x.gr,.bool x.down,.int .i64 x.lost] 36 (0,0)):=by rw[hw1];exact heap_alloc_new w _
 have t1:=b1
 have HR1:=Hj (n1)
 have HW1:=Hj hw1
 have bel1:=t1
 have hz1:=t1.size
 clear hw1 b1 n1 t1
 go_enter Tryz.func22,Tryz.ntmps22
 go_upto_region 1 with (fail)
 rw[←HW1.out]
 obtain ⟨R,hR⟩:∃A,A=w.heap.size:=⟨_,rfl⟩
 rw[←hR]
 rw[←hR] at HR1
 have qR:w.heap.size≤R:=by omega
 have lR:R<w1.heap.size:=by omega
 clear hR z1 HW1
 have HSZ1:=Hj (Nr w1.heap.size)
 simp only[List.append]
 have HA1:=Hj (HH0.out.below bel1)
 have HIB:=Hj (Rb HIV.out bel1)
 obtain ⟨bl,qb1,qb2⟩:=Raw.blocks HIB.out (by omega)
 have Hqb:=Hj qb1
 have hBl:∀q∈R::bl,∃cc e f,w1.heap[q]? =some (.cells cc e f):=fun q hq=>by
  rcases List.mem_cons.1 hq with rfl | hq
  ·exact ⟨_,_,_,HR1.out⟩
  exact (qb2 q hq).2
 clear qb1 qb2
 have HIB1:=HIB
 clear HIB
 refine Tz.wp_treeN (R::bl) [3,11,12,20,27,34,41,49,56,63] [] [3,8,11,12,20,27,34,41,49,56,63] [0,2,3] (.alt [1,4,5,6,9,10,11,12] (.alt [7,8,13,14,15,16,18,19,20] (.alt [17,21,22,23,24,26,27] (.alt [25,28,29,30,31,33,34] (.alt [32,35,36,37,38,40,41] (.alt [39,42,43,44,45,48,49] (.alt [46] (.alt [47] (.alt [50,51,52,53,55,56] (.alt [54,57,58,59,60,62,63] (.alt [61,64,65,66] (.done) (.no)) (.no)) (.no)) (.no)) (.no)) (.no)) (.no)) (.no)) (.no)) (.no)) (.no)) [0,1,0,4,10,18,32,96,160,32,544,1056,2080,4384,8224,16512,32768,98304,32768,294912,557056,1212416,2129920,4325376,8388608,25165824,8388608,75497472,176160768,276824064,570425344,1073741824,3221225472,1073741824,9663676416,22548578304,35433480192,73014444032,137438953472,412316860416,137438953472,1236950581248,2886218022912,4535485464576,9345848836096,17592186044416,52776558133248,87960930222080,17592186044416,299067162755072,721279627821056,1143492092887040,3377699720527872,4503599627370496,13510798882111488,4503599627370496,40532396646334464,94575592174780416,148618787703226368,306244774661193728,576460752303423488,1729382256910270464,576460752303423488,5188146770730811392,12105675798371893248,19023204826012975104,73786976294838206463] 145248757621729394557 (by kernel_rfl) (by kernel_rfl) (by kernel_rfl) (by kernel_rfl) (by kernel_rfl) (by kernel_rfl) hBl ?_
 obtain ⟨w2,hwd⟩:∃y,y=w1.drew:=⟨_,rfl⟩
 have HS2:Hid (SameB (R::bl) w2 w2):=Hj (by rw[hwd];exact same_start hBl)
 clear hBl
 rw[←hwd]
 have hdr:Below w1.heap.size w1 w2:=by rw[hwd];exact (Br _ _).drew
 have HR2:=Hj (Kb hdr HR1.out)
 have HSZ2:=Hj (Nat.le_trans HSZ1.out (hdr).size)
 have HA2:=Hj (UAt.below HA1.out hdr)
 have HIB2:=Hj (Rb HIB1.out hdr)
 clear HR1 HSZ1 HA1 HIB1
 have bel2:=bel1.trans (hdr.mono bel1.size)
 clear hdr hwd
 have cR_0:=Bj HR2.out 0 rfl
 have cR_1:=Bj HR2.out 1 rfl
 have cR_2:=Bj HR2.out 2 rfl
 have cR_3:=Bj HR2.out 3 rfl
 have cR_4:=Bj HR2.out 4 rfl
 have cR_5:=Bj HR2.out 5 rfl
 have cR_6:=Bj HR2.out 6 rfl
 have cR_7:=Bj HR2.out 7 rfl
 have cR_8:=Bj HR2.out 8 rfl
 have cR_9:=Bj HR2.out 9 rfl
 have cR_10:=Bj HR2.out 10 rfl
 have cR_11:=Bj HR2.out 11 rfl
 have cR_12:=Bj HR2.out 12 rfl
 have cR_13:=Bj HR2.out 13 rfl
 have cR_14:=Bj HR2.out 14 rfl
 have cR_15:=Bj HR2.out 15 rfl
 have kI:=run_str (P:=Tryz.prog) HIB2.out 22 5 9 Tryz.underlying22 Tryz.underlying5 Tryz.underlying9
 have e1:=str_eq (rfl:s.image=s.image)
 try simp only[pick,Gs,Gz]
 go_wp2
 refine Rm ?_
 refine Wq ?_
 try simp only[pick,Gs,Gz]
 go_wp2_with fail
 refine (utask_any HA2.out).mono ?_
 rintro e w' ⟨rfl,rfl⟩
 go_wp2
 refine Sm (Ss HS2.out) ?_
 try simp only[pick,Gs,Gz]
 go_wp2
 refine Rm ?_
 refine Wq ?_
 try simp only[pick,Gs,Gz]
 go_wp2_with fail
 refine (uimage_any HA2.out).mono ?_
 rintro e w3 ⟨v3,rfl,ho3,hb3⟩
 clear cR_0 cR_1 cR_2 cR_3 cR_4 cR_5 cR_6 cR_7 cR_8 cR_9 cR_10 cR_11 cR_12 cR_13 cR_14 cR_15 kI
 have HR3:=Hj (Kb hb3 HR2.out)
 have HSZ3:=Hj (Nat.le_trans HSZ2.out (hb3).size)
 have HA3:=Hj (UAt.below HA2.out hb3)
 have HIB3:=Hj (Rb HIB2.out hb3)
 clear HR2 HSZ2 HA2 HIB2
 have bel3:=bel2.trans (hb3.mono bel2.size)
 have HS3:=Hj (same_below' HS2.out hb3)
 obtain ⟨ja,jc,rfl⟩:=Oq ho3
 have kJ:=run_str (P:=Tryz.prog) (Bytes.row (F:=[]) ho3 rfl (fun f hf=>by cases hf)) 22 5 9 Tryz.underlying22 Tryz.underlying5 Tryz.underlying9
 clear ho3 hb3
 have cR_0:=Bj HR3.out 0 rfl
 have cR_1:=Bj HR3.out 1 rfl
 have cR_2:=Bj HR3.out 2 rfl
 have cR_3:=Bj HR3.out 3 rfl
 have cR_4:=Bj HR3.out 4 rfl
 have cR_5:=Bj HR3.out 5 rfl
 have cR_6:=Bj HR3.out 6 rfl
 have cR_7:=Bj HR3.out 7 rfl
 have cR_8:=Bj HR3.out 8 rfl
 have cR_9:=Bj HR3.out 9 rfl
 have cR_10:=Bj HR3.out 10 rfl
 have cR_11:=Bj HR3.out 11 rfl
 have cR_12:=Bj HR3.out 12 rfl
 have cR_13:=Bj HR3.out 13 rfl
 have cR_14:=Bj HR3.out 14 rfl
 have cR_15:=Bj HR3.out 15 rfl
 go_wp2
 refine Sm (Ss HS3.out) ?_
 try simp only[pick,Gs,Gz]
 go_wp2
 refine Rm ?_
 refine Wq ?_
 try simp only[pick,Gs,Gz]
 go_wp2_with fail
 refine (uversion_any HA3.out).mono ?_
 rintro e w' ⟨rfl,rfl⟩
 go_wp2
 refine Sm (Ss HS3.out) ?_
 try simp only[pick,Gs,Gz]
 go_wp2
 refine Rm ?_
 refine Wq ?_
 try simp only[pick,Gs,Gz]
 go_wp2_with fail
 refine (unumber_any HA3.out).mono ?_
 rintro e w' ⟨rfl,rfl⟩
 go_wp2
 refine Sm (Ss HS3.out) ?_
 try simp only[pick,Gs,Gz]
 go_wp2
 refine Rm ?_
 refine Wq ?_
 try simp only[pick,Gs,Gz]
 go_wp2_with fail
 refine (uattempt_any HA3.out).mono ?_
 rintro e w' ⟨rfl,rfl⟩
 go_wp2
 refine Sm (Ss HS3.out) ?_
 try simp only[pick,Gs,Gz]
 go_wp2
 refine Rm ?_
 refine Wq ?_
 try simp only[pick,Gs,Gz]
 go_wp2_with fail
 refine (uinst_any HA3.out).mono ?_
 rintro e w4 ⟨rfl,hb4⟩
 clear kJ cR_0 cR_1 cR_2 cR_3 cR_4 cR_5 cR_6 cR_7 cR_8 cR_9 cR_10 cR_11 cR_12 cR_13 cR_14 cR_15
 have HR4:=Hj (Kb hb4 HR3.out)
 have HSZ4:=Hj (Nat.le_trans HSZ3.out (hb4).size)
 have HA4:=Hj (UAt.below HA3.out hb4)
 have HIB4:=Hj (Rb HIB3.out hb4)
 clear HR3 HSZ3 HA3 HIB3
 have bel4:=bel3.trans (hb4.mono bel3.size)
 have HS4:=Hj (same_below' HS3.out hb4)
 clear hb4
 have cR_0:=Bj HR4.out 0 rfl
 have cR_1:=Bj HR4.out 1 rfl
 have cR_2:=Bj HR4.out 2 rfl
 have cR_3:=Bj HR4.out 3 rfl
 have cR_4:=Bj HR4.out 4 rfl
 have cR_5:=Bj HR4.out 5 rfl
 have cR_6:=Bj HR4.out 6 rfl
 have cR_7:=Bj HR4.out 7 rfl
 have cR_8:=Bj HR4.out 8 rfl
 have cR_9:=Bj HR4.out 9 rfl
 have cR_10:=Bj HR4.out 10 rfl
 have cR_11:=Bj HR4.out 11 rfl
 have cR_12:=Bj HR4.out 12 rfl
 have cR_13:=Bj HR4.out 13 rfl
 have cR_14:=Bj HR4.out 14 rfl
 have cR_15:=Bj HR4.out 15 rfl
 go_wp2
 refine Sm (Ss HS4.out) ?_
 try simp only[pick,Gs,Gz]
 go_wp2
 refine Rm ?_
 refine Wq ?_
 try simp only[pick,Gs,Gz]
 go_wp2_with fail
 refine (uledger_any HA4.out hll).mono ?_
 rintro e w5 ⟨v5,rfl,ho5,hb5⟩
 clear cR_0 cR_1 cR_2 cR_3 cR_4 cR_5 cR_6 cR_7 cR_8 cR_9 cR_10 cR_11 cR_12 cR_13 cR_14 cR_15
 have HR5:=Hj (Kb hb5 HR4.out)
 have HSZ5:=Hj (Nat.le_trans HSZ4.out (hb5).size)
 have HA5:=Hj (UAt.below HA4.out hb5)
 have HIB5:=Hj (Rb HIB4.out hb5)
 clear HR4 HSZ4 HA4 HIB4
 have bel5:=bel4.trans (hb5.mono bel4.size)
 have HS5:=Hj (same_below' HS4.out hb5)
 obtain ⟨ga,gc,rfl⟩:=Oq ho5
 have HL5:=Hj (Lg.SlL.of_own ho5)
 clear ho5 hb5
 have cR_0:=Bj HR5.out 0 rfl
 have cR_1:=Bj HR5.out 1 rfl
 have cR_2:=Bj HR5.out 2 rfl
 have cR_3:=Bj HR5.out 3 rfl
 have cR_4:=Bj HR5.out 4 rfl
 have cR_5:=Bj HR5.out 5 rfl
 have cR_6:=Bj HR5.out 6 rfl
 have cR_7:=Bj HR5.out 7 rfl
 have cR_8:=Bj HR5.out 8 rfl
 have cR_9:=Bj HR5.out 9 rfl
 have cR_10:=Bj HR5.out 10 rfl
 have cR_11:=Bj HR5.out 11 rfl
 have cR_12:=Bj HR5.out 12 rfl
 have cR_13:=Bj HR5.out 13 rfl
 have cR_14:=Bj HR5.out 14 rfl
 have cR_15:=Bj HR5.out 15 rfl
 go_wp2
 refine Sm (Ss HS5.out) ?_
 try simp only[pick,Gs,Gz]
 go_wp2
 refine Rm ?_
 refine Wq ?_
 try simp only[pick,Gs,Gz]
 go_wp2_with fail
 refine (Ldg.from_any _ x.led _ (by omega) HL5.out).mono ?_
 rintro e w6 ⟨v6,rfl,ho6,hb6⟩
 clear cR_0 cR_1 cR_2 cR_3 cR_4 cR_5 cR_6 cR_7 cR_8 cR_9 cR_10 cR_11 cR_12 cR_13 cR_14 cR_15
 have HR6:=Hj (Kb hb6 HR5.out)
 have HSZ6:=Hj (Nat.le_trans HSZ5.out (hb6).size)
 have HA6:=Hj (UAt.below HA5.out hb6)
 have HIB6:=Hj (Rb HIB5.out hb6)
 have HL6:=Hj (Lg.SlL.below HL5.out hb6)
 clear HR5 HSZ5 HA5 HIB5 HL5
 have bel6:=bel5.trans (hb6.mono bel5.size)
 have HS6:=Hj (same_below' HS5.out hb6)
 obtain ⟨fa,fc,rfl⟩:=Rs ho6
 have HM6:=Hj ho6
 clear ho6 hb6
 clear HL6
 have cR_0:=Bj HR6.out 0 rfl
 have cR_1:=Bj HR6.out 1 rfl
 have cR_2:=Bj HR6.out 2 rfl
 have cR_3:=Bj HR6.out 3 rfl
 have cR_4:=Bj HR6.out 4 rfl
 have cR_5:=Bj HR6.out 5 rfl
 have cR_6:=Bj HR6.out 6 rfl
 have cR_7:=Bj HR6.out 7 rfl
 have cR_8:=Bj HR6.out 8 rfl
 have cR_9:=Bj HR6.out 9 rfl
 have cR_10:=Bj HR6.out 10 rfl
 have cR_11:=Bj HR6.out 11 rfl
 have cR_12:=Bj HR6.out 12 rfl
 have cR_13:=Bj HR6.out 13 rfl
 have cR_14:=Bj HR6.out 14 rfl
 have cR_15:=Bj HR6.out 15 rfl
 go_wp2
 refine Sm (Ss HS6.out) ?_
 try simp only[pick,Gs,Gz]
 go_wp2
 refine Rm ?_
 refine Wq ?_
 try simp only[pick,Gs,Gz]
 go_wp2_with fail
 refine (Ldg.requal_any _ _ x.led x.led _ (by omega) (by omega) HM6.out (Raw.to_nil (Rb HLV.out bel6))).mono ?_
 rintro e w7 ⟨rfl,hb7⟩
 clear cR_0 cR_1 cR_2 cR_3 cR_4 cR_5 cR_6 cR_7 cR_8 cR_9 cR_10 cR_11 cR_12 cR_13 cR_14 cR_15
 have HR7:=Hj (Kb hb7 HR6.out)
 have HSZ7:=Hj (Nat.le_trans HSZ6.out (hb7).size)
 have HA7:=Hj (UAt.below HA6.out hb7)
 have HIB7:=Hj (Rb HIB6.out hb7)
 have HM7:=Hj (Lg.SlL.below HM6.out hb7)
 clear HR6 HSZ6 HA6 HIB6 HM6
 have bel7:=bel6.trans (hb7.mono bel6.size)
 have HS7:=Hj (same_below' HS6.out hb7)
 rw[Ldg.eqL_refl]
 clear hb7
 clear HM7
 have cR_0:=Bj HR7.out 0 rfl
 have cR_1:=Bj HR7.out 1 rfl
 have cR_2:=Bj HR7.out 2 rfl
 have cR_3:=Bj HR7.out 3 rfl
 have cR_4:=Bj HR7.out 4 rfl
 have cR_5:=Bj HR7.out 5 rfl
 have cR_6:=Bj HR7.out 6 rfl
 have cR_7:=Bj HR7.out 7 rfl
 have cR_8:=Bj HR7.out 8 rfl
 have cR_9:=Bj HR7.out 9 rfl
 have cR_10:=Bj HR7.out 10 rfl
 have cR_11:=Bj HR7.out 11 rfl
 have cR_12:=Bj HR7.out 12 rfl
 have cR_13:=Bj HR7.out 13 rfl
 have cR_14:=Bj HR7.out 14 rfl
 have cR_15:=Bj HR7.out 15 rfl
 go_wp2
 refine Sm (Ss HS7.out) ?_
 try simp only[pick,Gs,Gz]
 go_wp2
 refine Rm ?_
 refine Wq ?_
 try simp only[pick,Gs,Gz]
 go_wp2_with fail
 refine (udown_any HA7.out).mono ?_
 rintro e w' ⟨rfl,rfl⟩
 go_wp2
 refine Sm (Ss HS7.out) ?_
 try simp only[pick,Gs,Gz]
 go_wp2
 refine Rm ?_
 refine Wq ?_
 try simp only[pick,Gs,Gz]
 go_wp2_with fail
 refine (ulost_any HA7.out).mono ?_
 rintro e w' ⟨rfl,rfl⟩
 go_wp2
 refine Sm (Ss HS7.out) ?_
 try simp only[pick,Gs,Gz]
 go_wp2
 refine Rm ?_
 refine Wd (by rfl) ⟨.head _,.head _,Hqb.out _ (fun q hq=>List.mem_cons_of_mem _ hq),.head _,.head _,.head _,.head _,.head _,.head _,.head _,trivial⟩ ?_
 go_wp2
 go_ret
 exact ⟨rfl,bel7⟩
end Go.Proofs.YtipiofgdjbogiaaGreat
