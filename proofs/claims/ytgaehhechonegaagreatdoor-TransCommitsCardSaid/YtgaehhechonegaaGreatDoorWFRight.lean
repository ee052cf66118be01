import Derived.Test.YtgaehhechonegaaGreatDoorWChgCode
import Derived.Test.YtgaehhechonegaaGreatDoorChecked
import Derived.Test.YtgaehhechonegaaGreatDoorWFZone
import Derived.Test.YtgaehhechonegaaGreatDoorWLinLaw
import Derived.Lib.ItoaLen
import Derived.Test.YtgaehhechonegaaGreatDoorWAMS
open Nat (reduceDiv reduceMod reduceSub reduceAdd reduceLeDiff reduceEqDiff)
set_option linter.all false
namespace Go.Proofs.YtgaehhechonegaaGreatDoor
open Go.RowKit
open Go.Lib (indexAny)
def c_nrightc:ACode:=(.seq (.reg none [oS 2 (.mv (.c (.bool false)))]) (.seq (.reg none [oS 3 (.mv (.t 0)),oS 4 (.bin .eql (.t 3) (.c (.str []))),oS 5 (.mv (.t 4)),oH 6 (.mv (.t 0)) 5,oH 7 (.bin .eql (.t 6) (.c (.str [46]))) 5,oS 8 (.pick (.t 5) (.c (.bool true)) (.t 7)),oS 9 (.mv (.t 8)),oH 10 (.mv (.t 0)) 9,oH 11 (.bin .eql (.t 10) (.c (.str [46,46]))) 9,oS 12 (.pick (.t 9) (.c (.bool true)) (.t 11)),oS 2 (.mv (.t 12))]) .ret))
def r_nrightc:List ARes:=[(.t 2)]
theorem s_nrightc:slimF Tryz.prog Tryz.f110=some (c_nrightc,r_nrightc):=by kernel_rfl
def badS:Spec:=fun xs hp=>match xs,hp with
 | [.str q],[]=>some ⟨.bool (badP q),[],True⟩
 | _,_=>none
theorem bad_ok:FnOk Tryz.prog 110 badS:=by
 refine fn_slim2 Tryz.func110 s_nrightc (Φ:=phiL []) phi_nil ?_
 intro xs hp r hs hp'
 unfold badS at hs
 split at hs
 ·injection hs with hs; subst hs
  rename_i q
  refine ⟨len_le (by kernel_rfl),?_⟩
  rcases Classical.em (q=[]) with h0 | h0
  ·subst h0
   simp only [c_nrightc,r_nrightc,decide_true,go_sem,reduceDiv,reduceMod,↓reduceIte]
   simp [badP]
  ·have d0:decide (q=[])=false:=decide_eq_false h0
   rcases Classical.em (q=[46]) with h1 | h1
   ·have d1:decide (q=[46])=true:=decide_eq_true h1
    simp only [c_nrightc,r_nrightc,d0,d1,go_sem,reduceDiv,reduceMod,↓reduceIte]
    simp [badP,d0,d1]
   ·have d1:decide (q=[46])=false:=decide_eq_false h1
    have e:badP q=decide (q=[46,46]):=by unfold badP; rw [d0,d1]; rfl
    simp only [c_nrightc,r_nrightc,d0,d1,e,go_sem,reduceDiv,reduceMod,↓reduceIte]
 ·cases hs
def b_ifs_0:ACode:=(.seq (.reg none [oS 9 (.bin .lss (.t 8) (.t 7))]) (.seq (.cond (.t 9) .skip (.exit 0)) (.seq (.block 1 (.seq (.reg none [oS 10 (.mv (.t 8)),oS 5 (.mv (.t 10))]) (.seq (.reg none [oS 11 (.mv (.t 1)),oS 12 (.mv (.t 0)),oS 13 (.mv (.t 5)),oS 14 (.ia 1 (.str []) (.t 12) (.t 13)),oS 15 (.ld (.one (.str [])) (.t 14)),oS 16 (.callv (.t 11) [(.t 15)])]) (.cond (.t 16) (.seq (.reg none [oS 17 (.mv (.t 5)),oS 4 (.mv (.t 17))]) .ret) .skip)))) (.reg none [oS 18 (.bin .add (.t 8) (.c (.int .i64 1))),oS 8 (.mv (.t 18))]))))
def t_ifs_0:ACode:=(.seq (.reg none [oS 4 (.mv (.c (.int .i64 (-1))))]) .ret)
def c_ifs:ACode:=(.seq (.reg none [oS 4 (.mv (.c (.int .i64 0)))]) (.seq (.seq (.reg none [oS 6 (.mv (.t 0)),oS 7 (.len none false (.t 6)),oS 8 (.mv (.c (.int .i64 0)))]) (.block 0 (.loop b_ifs_0))) t_ifs_0))
def r_ifs:List ARes:=[(.t 4)]
theorem s_ifs:slimF Tryz.prog Tryz.f129=some (c_ifs,r_ifs):=by kernel_rfl
def fiB (ps:List (List UInt8)):Int:=if ps.any badP then (ps.findIdx badP:Int) else -1
def ifBadS:Spec:=fun xs hp=>match xs,hp with
 | [.sl 1 ps,.fn (.func g) [] []],[]=>some ⟨.int .i64 (fiB (ps.map unS)),[],g=110∧ps=(ps.map unS).map AV.str∧ps.length≤1000000000000⟩
 | _,_=>none
theorem ifBad_ok:FnOk Tryz.prog 129 ifBadS:=by
 refine fn_slim Tryz.func129 s_ifs (Φ:=phiL [(110,[],badS)]) (phi_cons bad_ok (by kernel_rfl) phi_nil) ?_
 intro xs hp r hs hp'
 unfold ifBadS at hs
 split at hs
 ·injection hs with hs; subst hs
  rename_i qs g
  refine ⟨len_le (by kernel_rfl),?_⟩
  obtain ⟨rfl,p2,p3⟩:=hp'
  generalize qs.map unS=ps at *
  subst p2
  rw [List.length_map] at p3
  simp only [c_ifs,r_ifs,awp_reg,awp_seq,awp_block,awp_loop,arun_nil,arun_op,aq_some,thenQ_n,astep,stV,aval,slots,AV.isStr,aLen,St.ev,lk,St.put,↓reduceIte,Option.isSome_none,Bool.or_true,beq_self_eq_true,true_and,List.length_nil,reduceAdd,reduceCtorEq,eq_self,List.length_map]
  refine loop_at [] [0,1,7,8] [] (fun i:Nat=>⟨[(0,.sl 1 (ps.map AV.str)),(1,.fn (.func 110) [] []),(7,.int .i64 (ps.length:Int)),(8,.int .i64 (i:Int))],[]⟩) (fun i=>i≤ps.findIdx badP) (fun i=>ps.length - i) 0 rfl (by omega) ⟨rfl,rfl⟩ (fun i hi=>?_)
  have hle:=List.findIdx_le_length (xs:=ps) (p:=badP)
  by_cases hil:i<ps.length
  ·have c1:decide ((i:Int)<(ps.length:Int))=true:=decide_eq_true (by omega)
   have hget:(ps.map AV.str).getD i (.str [])=.str (ps.getD i []):=by
    simp [List.getD_eq_getElem?_getD,List.getElem?_map,List.getElem?_eq_getElem hil]
   have hga:ps.getD i []=ps[i]:=by simp [List.getD_eq_getElem?_getD,List.getElem?_eq_getElem hil]
   simp only [b_ifs_0,t_ifs_0,badS,c1,hget,Int.toNat_natCast,awp_skip,awp_reg,awp_seq,awp_cond,awp_block,awp_ret,arun_nil,arun_op,aq_some,isB_t,ifB_t,thenQ_n,thenQ_r,inQ_n,inQ_r,retQ_r,astep,stV,stC,aval,aret,ares,Int.toNat_natCast,pt,rdP,aBin,aInt,arI,aIa,aLd,pparts,AV.multi,St.ev,lk,St.put,acall0,acall1,acall2,acall3,bor,bor0,bor1,phiL_at,lentO,okIds,flatC,place,setAll_nil,nodupB,renObj,closeIds,addNew,idsOf,idsObj,posOf,↓reduceIte,reduceEqDiff,List.map,List.flatMap_cons,List.flatMap_nil,true_and,List.length_nil,List.append_nil,Option.map,mapO,ren,kp,List.range,List.range.loop,List.getElem?_nil,List.drop_nil,List.all_nil,List.isEmpty_nil,Bool.and_true,Bool.not_false,List.contains_nil,reduceCtorEq,eq_self,Nat.le_refl,List.length_map,and_self]
   refine ⟨⟨by omega,by omega⟩,fun hb=>?_,fun hb=>?_⟩
   ·rw [hga] at hb
    have hf:ps.findIdx badP=i:=by
     have:=List.not_of_lt_findIdx (xs:=ps) (p:=badP) (i:=i)
     rcases Nat.lt_or_ge i (ps.findIdx badP) with h | h
     ·exact absurd hb (by simpa using this h)
     ·omega
    have hany:ps.any badP=true:=List.any_eq_true.2 ⟨ps[i],List.getElem_mem _,hb⟩
    have e:fiB ps=(i:Int):=by unfold fiB; rw [hany,if_pos rfl,hf]
    simp only [e,renObj,finP,finI,closeIds,addNew,idsOf,List.flatMap_nil,List.take_zero,nodupB,posOf,idsObj,List.range,List.range.loop,ren,lentO,mapO,Option.map,and_true]
   ·rw [hga] at hb
    have hf:i<ps.findIdx badP:=by
     rcases Nat.lt_or_ge i (ps.findIdx badP) with h | h
     ·exact h
     ·have e:ps.findIdx badP=i:=by omega
      have:=List.findIdx_getElem (xs:=ps) (p:=badP) (w:=by omega)
      simp only [e] at this
      rw [hb] at this; cases this
    exact ⟨by (first | omega | (simp only [inI]; omega)),i+1,by omega,by omega,rfl⟩
  ·have c1:decide ((i:Int)<(ps.length:Int))=false:=decide_eq_false (by omega)
   have hn:ps.any badP=false:=by
    rw [List.any_eq_false]
    intro x hx hb
    have:=List.findIdx_lt_length_of_exists ⟨x,hx,hb⟩
    omega
   have e:fiB ps = -1:=by unfold fiB; rw [hn]; rfl
   simp only [b_ifs_0,t_ifs_0,c1,e,awp_reg,awp_seq,awp_cond,awp_exit,awp_ret,arun_nil,arun_op,aq_some,isB_f,isB_g,thenQ_n,thenQ_x,inQ_x,retQ_r,astep,stV,aval,aret,ares,aBin,aInt,St.ev,lk,St.put,lentO,renObj,posOf,↓reduceIte,reduceEqDiff,true_and,List.length_nil,Option.map,mapO,ren,kp,List.range,List.range.loop,reduceCtorEq,eq_self]
   simp only [renObj,finP,finI,closeIds,addNew,idsOf,List.flatMap_nil,List.take_zero,nodupB,posOf,idsObj,List.range,List.range.loop,ren,lentO,mapO,Option.map,and_true]
 ·cases hs
def c_cfs:ACode:=(.seq (.reg none [oS 4 (.mv (.c (.bool false)))]) (.seq (.reg none [oS 5 (.mv (.t 0)),oS 6 (.mv (.t 1)),oS 7 (.call 129 [(.t 5),(.t 6)]),oS 8 (.bin .geq (.t 7) (.c (.int .i64 0))),oS 4 (.mv (.t 8))]) .ret))
def r_cfs:List ARes:=[(.t 4)]
theorem s_cfs:slimF Tryz.prog Tryz.f108=some (c_cfs,r_cfs):=by kernel_rfl
theorem fiB_nn (ps:List (List UInt8)):decide (0≤fiB ps)=ps.any badP:=by
 unfold fiB
 cases ps.any badP with
 | true=>simp
 | false=>rfl
def cfBadS:Spec:=fun xs hp=>match xs,hp with
 | [.sl 1 ps,.fn (.func g) [] []],[]=>some ⟨.bool ((ps.map unS).any badP),[],g=110∧ps=(ps.map unS).map AV.str∧ps.length≤1000000000000⟩
 | _,_=>none
theorem cfBad_ok:FnOk Tryz.prog 108 cfBadS:=by
 refine fn_slim2 Tryz.func108 s_cfs (Φ:=phiL [(129,[],ifBadS)]) (phi_cons ifBad_ok (by kernel_rfl) phi_nil) ?_
 intro xs hp r hs hp'
 unfold cfBadS at hs
 split at hs
 ·injection hs with hs; subst hs
  rename_i qs g
  refine ⟨len_le (by kernel_rfl),?_⟩
  obtain ⟨rfl,p2,p3⟩:=hp'
  simp only [c_cfs,r_cfs,ifBadS,fiB_nn,go_sem,reduceDiv,reduceMod,↓reduceIte,reduceAdd]
  exact ⟨p2,p3⟩
 ·cases hs
def c_cany:ACode:=(.seq (.reg none [oS 4 (.mv (.c (.bool false)))]) (.seq (.reg none [oS 5 (.mv (.t 0)),oS 6 (.mv (.t 1)),oS 7 (.call 98 [(.t 5),(.t 6)]),oS 8 (.bin .geq (.t 7) (.c (.int .i64 0))),oS 4 (.mv (.t 8))]) .ret))
def r_cany:List ARes:=[(.t 4)]
theorem s_cany:slimF Tryz.prog Tryz.f77=some (c_cany,r_cany):=by kernel_rfl
theorem any3 (s:List UInt8):(s.any fun b=>b == 0 || (b == 10 || b == 13))=s.any ctlB:=by
 congr 1
 funext b
 rw [Bool.eq_iff_iff]
 simp [ctlB,or_assoc]
def cany3S:Spec:=fun xs hp=>match xs,hp with
 | [.str s,.str p],[]=>some ⟨.bool (s.any ctlB),[],p=[0,10,13]∧s.length<4294967281⟩
 | _,_=>none
theorem cany3_ok:FnOk Tryz.prog 77 cany3S:=by
 refine fn_slim2 Tryz.func77 s_cany (Φ:=phiL [(98,[],idxAny3S)]) (phi_cons idxAny3_ok (by kernel_rfl) phi_nil) ?_
 intro xs hp r hs hp'
 unfold cany3S at hs
 split at hs
 ·injection hs with hs; subst hs
  rename_i s p
  refine ⟨len_le (by kernel_rfl),?_⟩
  obtain ⟨rfl,p2⟩:=hp'
  simp only [c_cany,r_cany,idxAny3S,indexAny_nn,go_sem,reduceDiv,reduceMod,↓reduceIte,reduceAdd]
  exact ⟨p2,by rw [any3]⟩
 ·cases hs
def c_nright:ACode:=(.seq (.reg none [oS 2 (.mv (.c (.bool false)))]) (.seq (.seq (.reg none [oS 3 (.mv (.t 0)),oS 4 (.len none true (.t 3)),oS 5 (.bin .gtr (.t 4) (.c (.int .i64 255))),oS 6 (.mv (.t 5)),oH 7 (.mv (.t 0)) 6,oH 8 (.call 77 [(.t 7),(.c (.str [0,10,13]))]) 6,oS 9 (.pick (.t 6) (.c (.bool true)) (.t 8))]) (.cond (.t 9) (.seq (.reg none [oS 2 (.mv (.c (.bool false)))]) .ret) .skip)) (.seq (.reg none [oS 10 (.mv (.t 0)),oS 11 (.call 109 [(.t 10),(.c (.str [47]))]),oS 12 (.call 108 [(.t 11),(.c (.fn (.func 110) [] []))]),oS 13 (.un .not (.t 12)),oS 2 (.mv (.t 13))]) .ret)))
def r_nright:List ARes:=[(.t 2)]
theorem s_nright:slimF Tryz.prog Tryz.f88=some (c_nright,r_nright):=by kernel_rfl
def nrightS:Spec:=fun xs hp=>match xs,hp with
 | [.str s],[]=>some ⟨.bool (rightP s),[],s.length≤1000000000⟩
 | _,_=>none
theorem nright_ok:FnOk Tryz.prog 88 nrightS:=by
 refine fn_slim2 Tryz.func88 s_nright (Φ:=phiL [(77,[],cany3S),(109,[],splitS),(108,[],cfBadS)]) (phi_cons cany3_ok (by kernel_rfl) (phi_cons split_ok (by kernel_rfl) (phi_cons cfBad_ok (by kernel_rfl) phi_nil))) ?_
 intro xs hp r hs hp'
 unfold nrightS at hs
 split at hs
 ·injection hs with hs; subst hs
  rename_i s
  have hp2:s.length≤1000000000:=hp'
  refine ⟨len_le (by kernel_rfl),?_⟩
  have hlen:=psl_join_len 47 s
  by_cases h1:255<s.length
  ·have d1:decide ((255:Int)<(s.length:Int))=true:=decide_eq_true (by omega)
   have e:rightP s=false:=by unfold rightP; rw [decide_eq_true h1]; rfl
   simp only [c_nright,r_nright,d1,e,go_sem,reduceDiv,reduceMod,↓reduceIte]
  ·have d1:decide ((255:Int)<(s.length:Int))=false:=decide_eq_false (by omega)
   cases hc:s.any ctlB with
   | true =>
    have e:rightP s=false:=by unfold rightP; rw [hc]; simp
    simp only [c_nright,r_nright,cany3S,d1,e,hc,go_sem,reduceDiv,reduceMod,↓reduceIte]
    omega
   | false =>
    have e:rightP s=!(psl 47 s).any badP:=by unfold rightP; rw [hc,decide_eq_false h1]; simp
    simp only [c_nright,r_nright,cany3S,splitS,cfBadS,d1,e,hc,unS_map,go_sem,reduceDiv,reduceMod,↓reduceIte,reduceEqDiff,reduceSub,Nat.reduceLT,reduceAdd,reduceLeDiff]
    exact ⟨by omega,by omega⟩
 ·cases hs
end Go.Proofs.YtgaehhechonegaaGreatDoor
namespace Go.Proofs.YtgaehhechonegaaGreatDoor
open Go.RowKit
open Go.Lib (index hasPrefix trimPrefix cut indexAny itoa)
theorem ascB_snoc:∀ (l:List (List UInt8)) (x:List UInt8),ascB (l ++ [x])=(ascB l && (l.getLast?.all fun y=>Op.bytesLess y x))
 | [],x=>rfl
 | [a],x=>by simp [ascB]
 | a :: b :: r,x=>by
  have ih:=ascB_snoc (b :: r) x
  rw [List.cons_append,List.cons_append,ascB,← List.cons_append,ih,ascB,Bool.and_assoc]
  simp
theorem ascB_take:∀ (l:List (List UInt8)) (k:Nat),ascB l=true→ascB (l.take k)=true
 | [],k,h=>by simp [ascB]
 | [a],k,h=>by cases k <;> simp [ascB]
 | a :: b :: r,k,h=>by
  rw [ascB,Bool.and_eq_true] at h
  match k with
  | 0=>rfl
  | 1=>rfl
  | k+2 =>
   have ih:=ascB_take (b :: r) (k+1) h.2
   rw [List.take_succ_cons,List.take_succ_cons] at *
   rw [ascB,h.1,ih]; rfl
theorem asc_step (l:List (List UInt8)) {i:Nat} (h:i<l.length):ascB (l.take (i+1))=(ascB (l.take i) && (decide (i=0) || Op.bytesLess (l.getD (i - 1) []) l[i])):=by
 rw [List.take_add_one,List.getElem?_eq_getElem h,Option.toList_some,ascB_snoc]
 congr 1
 cases i with
 | zero=>simp
 | succ i =>
  have:(l.take (i+1)).getLast?=some (l.getD i []):=by
   rw [List.take_add_one,List.getElem?_eq_getElem (by omega),Option.toList_some,List.getLast?_append]
   simp [List.getD_eq_getElem?_getD,List.getElem?_eq_getElem (show i<l.length by omega)]
  rw [this]; simp
def grightS:Spec:=fun xs hp=>match xs,hp with
 | [.agg [(20,.blob m),(1,.str u),(1,.int .i64 t),(1,.int .i64 z),(1,.sl ke es),(1,.sl kf fs),(1,.str d)]],[] =>
  some ⟨.bool (rightH ⟨unV m,u,t,z,es.map unEx,fs.map unS,d⟩),[],es=(es.map unEx).map exV∧fs=(fs.map unS).map AV.str∧(ke=2∨es=[])∧(kf=1∨fs=[])∧es.length≤1000000∧fs.length≤1000000 ∧
   (∀ x∈es.map unEx,x.1.length≤1000000000)∧(∀ f∈fs.map unS,f.length≤1000000000)∧u.length≤1000000⟩
 | _,_=>none
def phiGR:Phi:=phiL [(87,[],gkeyedS),(88,[],nrightS),(89,[],containsS)]
theorem phiGR_ok:PhiOk Tryz.prog phiGR:=phi_cons gkeyed_ok (by kernel_rfl) (phi_cons nright_ok (by kernel_rfl) (phi_cons contains_ok (by kernel_rfl) phi_nil))
theorem phiGR_1:phiGR 87=some ([],gkeyedS):=rfl
theorem phiGR_2:phiGR 88=some ([],nrightS):=rfl
theorem phiGR_3:phiGR 89=some ([],containsS):=rfl
set_option maxHeartbeats 4000000 in
theorem gright_ok:FnOk Tryz.prog 61 grightS:=by
 refine fn_slim2 Tryz.func61 s_gright phiGR_ok ?_
 intro xs hp r hs hp'
 unfold grightS at hs
 split at hs
 ·injection hs with hs; subst hs
  rename_i m u t z ke es kf fs d
  obtain ⟨q1,q2,q3,q4,q5,q6,q7,q8,q9⟩:=hp'
  generalize unV m=m1 at *
  generalize es.map unEx=es at *
  subst q1
  generalize fs.map unS=fs at *
  subst q2
  rw [List.length_map] at q5 q6
  refine ⟨len_le (by kernel_rfl),?_⟩
  have bad1:(es.all fun x=>keyedB x.1)=false→rightH ⟨m1,u,t,z,es,fs,d⟩=false:=fun h=>by unfold rightH; simp only [h,Bool.and_false,Bool.false_and]
  have bad2:ascB (es.map Prod.fst)=false→rightH ⟨m1,u,t,z,es,fs,d⟩=false:=fun h=>by unfold rightH; simp only [h,Bool.and_false,Bool.false_and]
  have bad3:fs.all rightP=false→rightH ⟨m1,u,t,z,es,fs,d⟩=false:=fun h=>by unfold rightH; simp only [h,Bool.and_false,Bool.false_and]
  have bad4:ascB fs=false→rightH ⟨m1,u,t,z,es,fs,d⟩=false:=fun h=>by unfold rightH; simp only [h,Bool.and_false]
  simp only [c_gright,go_sem,reduceDiv,reduceMod,↓reduceIte,reduceSub,reduceAdd,reduceLeDiff,reduceCtorEq]
  refine loop2P [] [1,8,9,10] [0] (fun i:Nat=>⟨[(1,.ref 0 0 0),(8,.sl ke (es.map exV)),(9,.int .i64 (es.length:Int)),(10,.int .i64 (i:Int))],[.cells 40 [(20,.blob m),(1,.str u),(1,.int .i64 t),(1,.int .i64 z),(1,.sl ke (es.map exV)),(1,.sl kf (fs.map AV.str)),(1,.str d)]]⟩)
   (fun i=>i≤es.length∧((es.take i).all fun x=>keyedB x.1)=true∧ascB ((es.map Prod.fst).take i)=true) (fun i=>es.length - i) 0 (by rfl) ⟨Nat.zero_le _,by simp,by simp [ascB]⟩ ⟨rfl,by rfl⟩ (fun i hi R hR=>?_)
  obtain ⟨i1,i2,i3⟩:=hi
  by_cases hil:i<es.length
  ·have c1:decide ((i:Int)<(es.length:Int))=true:=decide_eq_true (by omega)
   have hk:ke=2:=q3.resolve_right (by intro h; have:=congrArg List.length h; simp at this; rw [this] at hil; simp at hil)
   have hz:(AV.agg [(1,AV.str []),(1,AV.str [])])=exV ([],[]):=rfl
   have hget:=getD_map exV es ([],[]) (AV.agg [(1,AV.str []),(1,AV.str [])]) hil
   have hga:es.getD i ([],[])=es[i]:=by simp [List.getD_eq_getElem?_getD,List.getElem?_eq_getElem hil]
   have hlen:=q7 es[i] (List.getElem_mem _)
   have hst:=asc_step (es.map Prod.fst) (i:=i) (by rw [List.length_map]; exact hil)
   rw [List.getElem_map] at hst
   have htk:(es.take (i+1)).all (fun x=>keyedB x.1)=keyedB es[i].1:=by
    rw [List.take_add_one,List.getElem?_eq_getElem hil,Option.toList_some,List.all_append,i2]; simp
   have hmem:es[i]∈es:=List.getElem_mem _
   have hall:keyedB es[i].1=false→(es.all fun x=>keyedB x.1)=false:=fun h=>List.all_eq_false.2 ⟨es[i],hmem,by rw [h]; simp⟩
   have hasc:ascB ((es.map Prod.fst).take (i+1))=false→ascB (es.map Prod.fst)=false:=fun h=>by
    cases hh:ascB (es.map Prod.fst) with
    | false=>rfl
    | true=>rw [ascB_take _ (i+1) hh] at h; cases h
   rw [i3,Bool.true_and] at hst
   subst hk
   generalize hx:es[i]=x at *
   cases h1:keyedB x.1 with
   | false =>
    rw [bad1 (hall h1)]
    simp only [b_gright_0,r_gright,c1,hget,hga,exV,h1,phiGR_1,gkeyedS,Int.toNat_natCast,List.length_map,go_sem,reduceDiv,reduceMod,↓reduceIte,reduceSub,reduceAdd,reduceLeDiff,reduceCtorEq]
    exact ⟨⟨by omega,by omega⟩,hlen⟩
   | true =>
    rw [h1] at htk
    by_cases h0:i=0
    ·have d0:decide (0<(i:Int))=false:=decide_eq_false (by omega)
     rw [decide_eq_true h0,Bool.true_or] at hst
     simp only [b_gright_0,r_gright,c1,d0,hget,hga,exV,h1,phiGR_1,gkeyedS,Int.toNat_natCast,List.length_map,go_sem,reduceDiv,reduceMod,↓reduceIte,reduceSub,reduceAdd,reduceLeDiff,reduceCtorEq]
     exact ⟨⟨by omega,by omega⟩,hlen,⟨by omega,by omega⟩,hR _ (i+1) ⟨hil,htk,hst⟩ (by omega) rfl⟩
    ·have d0:decide (0<(i:Int))=true:=decide_eq_true (by omega)
     rw [decide_eq_false h0,Bool.false_or] at hst
     have e1:((i:Int) - 1).toNat=i - 1:=by omega
     have hget1:=getD_map exV es ([],[]) (AV.agg [(1,AV.str []),(1,AV.str [])]) (show i - 1<es.length by omega)
     have hkg:(es.map Prod.fst).getD (i - 1) []=(es.getD (i - 1) ([],[])).1:=by
      simp [List.getD_eq_getElem?_getD,List.getElem?_eq_getElem (show i - 1<es.length by omega)]
     rw [hkg] at hst
     cases h2:Op.bytesLess (es.getD (i - 1) ([],[])).1 x.1 with
     | true =>
      rw [h2] at hst
      simp only [b_gright_0,r_gright,c1,d0,e1,hget,hget1,hga,exV,h1,h2,phiGR_1,gkeyedS,Int.toNat_natCast,List.length_map,go_sem,reduceDiv,reduceMod,↓reduceIte,reduceSub,reduceAdd,reduceLeDiff,reduceCtorEq]
      exact ⟨⟨by omega,by omega⟩,hlen,⟨by omega,by omega⟩,⟨by omega,by omega⟩,⟨by omega,by omega⟩,hR _ (i+1) ⟨hil,htk,hst⟩ (by omega) rfl⟩
     | false =>
      rw [h2] at hst
      rw [bad2 (hasc hst)]
      simp only [b_gright_0,r_gright,c1,d0,e1,hget,hget1,hga,exV,h1,h2,phiGR_1,gkeyedS,Int.toNat_natCast,List.length_map,go_sem,reduceDiv,reduceMod,↓reduceIte,reduceSub,reduceAdd,reduceLeDiff,reduceCtorEq]
      exact ⟨⟨by omega,by omega⟩,hlen,⟨by omega,by omega⟩,by omega,by omega⟩
  ·have c1:decide ((i:Int)<(es.length:Int))=false:=decide_eq_false (by omega)
   rw [List.take_of_length_le (by omega)] at i2
   rw [List.take_of_length_le (by rw [List.length_map]; omega)] at i3
   simp only [b_gright_0,t_gright_1,c1,go_sem,reduceDiv,reduceMod,↓reduceIte,reduceSub,reduceAdd,reduceLeDiff,reduceCtorEq]
   refine loop2P [] [1,37,38,39] [0] (fun j:Nat=>⟨[(1,.ref 0 0 0),(37,.sl kf (fs.map AV.str)),(38,.int .i64 (fs.length:Int)),(39,.int .i64 (j:Int))],[.cells 40 [(20,.blob m),(1,.str u),(1,.int .i64 t),(1,.int .i64 z),(1,.sl ke (es.map exV)),(1,.sl kf (fs.map AV.str)),(1,.str d)]]⟩)
    (fun j=>j≤fs.length∧(fs.take j).all rightP=true∧ascB (fs.take j)=true) (fun j=>fs.length - j) 0 (by rfl) ⟨Nat.zero_le _,by simp,by simp [ascB]⟩ ⟨rfl,by rfl⟩ (fun j hj R2 hR2=>?_)
   obtain ⟨j1,j2,j3⟩:=hj
   by_cases hjl:j<fs.length
   ·have d1:decide ((j:Int)<(fs.length:Int))=true:=decide_eq_true (by omega)
    have hk:kf=1:=q4.resolve_right (by intro h; have:=congrArg List.length h; simp at this; rw [this] at hjl; simp at hjl)
    have hget:=getD_map AV.str fs [] (AV.str []) hjl
    have hga:fs.getD j []=fs[j]:=by simp [List.getD_eq_getElem?_getD,List.getElem?_eq_getElem hjl]
    have hlen:=q8 fs[j] (List.getElem_mem _)
    have hst:=asc_step fs hjl
    have htk:(fs.take (j+1)).all rightP=rightP fs[j]:=by
     rw [List.take_add_one,List.getElem?_eq_getElem hjl,Option.toList_some,List.all_append,j2]; simp
    have hmem:fs[j]∈fs:=List.getElem_mem _
    have hall:rightP fs[j]=false→fs.all rightP=false:=fun h=>List.all_eq_false.2 ⟨fs[j],hmem,by rw [h]; simp⟩
    have hasc:ascB (fs.take (j+1))=false→ascB fs=false:=fun h=>by
     cases hh:ascB fs with
     | false=>rfl
     | true=>rw [ascB_take _ (j+1) hh] at h; cases h
    rw [j3,Bool.true_and] at hst
    subst hk
    generalize hx:fs[j]=x at *
    cases h1:rightP x with
    | false =>
     rw [bad3 (hall h1)]
     simp only [b_gright_1,r_gright,d1,hget,hga,h1,phiGR_2,nrightS,Int.toNat_natCast,List.length_map,go_sem,reduceDiv,reduceMod,↓reduceIte,reduceAdd]
     exact ⟨⟨by omega,by omega⟩,hlen⟩
    | true =>
     rw [h1] at htk
     by_cases h0:j=0
     ·have d0:decide (0<(j:Int))=false:=decide_eq_false (by omega)
      rw [decide_eq_true h0,Bool.true_or] at hst
      simp only [b_gright_1,r_gright,d1,d0,hget,hga,h1,phiGR_2,nrightS,Int.toNat_natCast,List.length_map,go_sem,reduceDiv,reduceMod,↓reduceIte,reduceAdd]
      exact ⟨⟨by omega,by omega⟩,hlen,⟨by omega,by omega⟩,hR2 _ (j+1) ⟨hjl,htk,hst⟩ (by omega) rfl⟩
     ·have d0:decide (0<(j:Int))=true:=decide_eq_true (by omega)
      rw [decide_eq_false h0,Bool.false_or] at hst
      have e1:((j:Int) - 1).toNat=j - 1:=by omega
      have hget1:=getD_map AV.str fs [] (AV.str []) (show j - 1<fs.length by omega)
      cases h2:Op.bytesLess (fs.getD (j - 1) []) x with
      | true =>
       rw [h2] at hst
       simp only [b_gright_1,r_gright,d1,d0,e1,hget,hget1,hga,h1,h2,phiGR_2,nrightS,Int.toNat_natCast,List.length_map,go_sem,reduceDiv,reduceMod,↓reduceIte,reduceSub,reduceAdd,reduceLeDiff,reduceCtorEq]
       exact ⟨⟨by omega,by omega⟩,hlen,⟨by omega,by omega⟩,⟨by omega,by omega⟩,⟨by omega,by omega⟩,hR2 _ (j+1) ⟨hjl,htk,hst⟩ (by omega) rfl⟩
      | false =>
       rw [h2] at hst
       rw [bad4 (hasc hst)]
       simp only [b_gright_1,r_gright,d1,d0,e1,hget,hget1,hga,h1,h2,phiGR_2,nrightS,Int.toNat_natCast,List.length_map,go_sem,reduceDiv,reduceMod,↓reduceIte,reduceSub,reduceAdd,reduceLeDiff,reduceCtorEq]
       exact ⟨⟨by omega,by omega⟩,hlen,⟨by omega,by omega⟩,by omega,by omega⟩
   ·have d1:decide ((j:Int)<(fs.length:Int))=false:=decide_eq_false (by omega)
    rw [List.take_of_length_le (by omega)] at j2 j3
    have hrr:rightH ⟨m1,u,t,z,es,fs,d⟩=(((((!decide (u=[]) && !u.contains 10) && decide (0≤t)) && decide (t<4611686018427387904)) && decide (-86399≤z)) && decide (z≤86399)):=by
     unfold rightH
     simp only [i2,i3,j2,j3,Bool.and_true]
     simp
    rw [hrr]
    cases a1:decide (u=[]) with
    | true=>simp only [a1,b_gright_1,t_gright_0,r_gright,d1,Bool.false_and,Bool.not_true,go_sem,reduceDiv,reduceMod,↓reduceIte,reduceSub,reduceAdd,reduceCtorEq]
    | false =>
    cases a2:u.contains 10 with
    | true =>
     simp only [a1,a2,b_gright_1,t_gright_0,r_gright,d1,phiGR_3,containsS,Bool.false_and,Bool.true_and,Bool.not_true,Bool.not_false,go_sem,reduceDiv,reduceMod,↓reduceIte,reduceSub,reduceAdd,reduceCtorEq]
     exact q9
    | false =>
    cases a3:decide (0≤t) with
    | false =>
     simp only [a1,a2,a3,b_gright_1,t_gright_0,r_gright,d1,phiGR_3,containsS,Bool.false_and,Bool.true_and,Bool.not_false,go_sem,reduceDiv,reduceMod,↓reduceIte,reduceSub,reduceAdd,reduceLeDiff,reduceCtorEq]
     exact q9
    | true =>
    cases a4:decide (t<4611686018427387904) with
    | false =>
     simp only [a1,a2,a3,a4,b_gright_1,t_gright_0,r_gright,d1,phiGR_3,containsS,Bool.false_and,Bool.true_and,Bool.not_false,go_sem,reduceDiv,reduceMod,↓reduceIte,reduceSub,reduceAdd,reduceLeDiff,reduceCtorEq]
     exact q9
    | true =>
    cases a5:decide (-86399≤z) with
    | false =>
     simp only [a1,a2,a3,a4,a5,b_gright_1,t_gright_0,r_gright,d1,phiGR_3,containsS,Bool.false_and,Bool.true_and,Bool.not_false,go_sem,reduceDiv,reduceMod,↓reduceIte,reduceSub,reduceAdd,reduceLeDiff,reduceCtorEq]
     exact q9
    | true =>
     simp only [a1,a2,a3,a4,a5,b_gright_1,t_gright_0,r_gright,d1,phiGR_3,containsS,Bool.true_and,Bool.not_false,go_sem,reduceDiv,reduceMod,↓reduceIte,reduceSub,reduceAdd,reduceLeDiff,reduceCtorEq]
     exact q9
 ·cases hs
end Go.Proofs.YtgaehhechonegaaGreatDoor
namespace Go.Proofs.YtgaehhechonegaaGreatDoor
open Go.RowKit
open Go.Lib (index hasPrefix trimPrefix cut indexAny itoa)
theorem exsT_snoc (l:List ExL) (x:ExL):exsT (l ++ [x])=exsT l ++ ((if l=[] then [32] else [0]) ++ exT x):=by
 cases l with
 | nil=>simp [exsT,joinB]
 | cons y l =>
  rw [if_neg (by simp),List.cons_append,exsT,exsT,List.map_cons,List.map_append,List.map_cons,List.map_nil,joinB,List.map_cons,joinB]
  simp
theorem file_shift:∀ fs:List (List UInt8),10 :: fs.flatMap fileT=fs.flatMap ([10] ++ ·) ++ [10]
 | []=>rfl
 | f :: fs=>by
  have ih:=file_shift fs
  rw [List.flatMap_cons,List.flatMap_cons,fileT,List.append_assoc,show ([10]:List UInt8) ++ fs.flatMap fileT=10 :: fs.flatMap fileT from rfl,ih]
  simp
theorem join_body (h u da d:List UInt8) (fs:List (List UInt8)):joinW [10] (h :: u :: da :: (fs ++ [[],d]))=h ++ 10 :: (u ++ 10 :: (da ++ 10 :: (fs.flatMap fileT ++ 10 :: d))):=by
 have:=file_shift fs
 rw [joinW,List.flatMap_cons,List.flatMap_cons,List.flatMap_append]
 have e:da ++ 10 :: (fs.flatMap fileT ++ 10 :: d)=da ++ ((10 :: fs.flatMap fileT) ++ 10 :: d):=by simp
 rw [e,this]
 simp
theorem files_len:∀ fs:List (List UInt8),(fs.flatMap fileT).length=sumL fs+fs.length
 | []=>rfl
 | f :: fs=>by
  have ih:=files_len fs
  simp only [List.flatMap_cons,List.length_append,fileT,sumL,List.map_cons,List.sum_cons,List.length_cons,List.length_nil] at ih ⊢
  omega
theorem body_len (c:ChgL):(bodyH c).length=(hexL c.man).length+c.user.length+(dateT c).length+sumL c.files+c.files.length+c.desc.length+4:=by
 have:=files_len c.files
 simp only [bodyH,List.length_append,List.length_cons]; omega
def sizeH (c:ChgL):Prop:=c.man.length=20∧c.user.length≤1000000∧c.extras.length≤100000∧c.files.length≤100000∧(∀ x∈c.extras,x.1.length≤1000000∧x.2.length≤1000000)∧(∀ f∈c.files,f.length≤1000000) ∧
 (exsT c.extras).length≤100000000∧sumL c.files≤100000000∧c.desc.length≤100000000∧inI c.time∧inI c.zone
def gprnR (c:ChgL) (pr:Prop):Option Ret:=if rightH c=true then some ⟨.tup [.own 0 0,.int .i64 0],[.row 5 1 0 (Bs (bodyH c))],pr⟩ else some ⟨.tup [.con (.slice none 0 0),.int .i64 4],[],pr⟩
def argH (m:List Value) (ke:Nat) (es:List AV) (kf:Nat) (fs:List AV):Prop:=m=(unV m).map U∧es=(es.map unEx).map exV∧fs=(fs.map unS).map AV.str∧(ke=2∨es=[])∧kf=1
def gprnS:Spec:=fun xs hp=>match xs,hp with
 | [.agg [(20,.blob m),(1,.str u),(1,.int .i64 t),(1,.int .i64 z),(1,.sl ke es),(1,.sl kf fs),(1,.str d)]],[] =>
  gprnR ⟨unV m,u,t,z,es.map unEx,fs.map unS,d⟩ (argH m ke es kf fs∧sizeH ⟨unV m,u,t,z,es.map unEx,fs.map unS,d⟩)
 | _,_=>none
theorem gprnR_pre {c:ChgL} {pr:Prop} {r:Ret} (h:gprnR c pr=some r) (hr:r.pre):pr:=by
 unfold gprnR at h
 split at h <;> (injection h with h; subst h; exact hr)
theorem exsT_take (es:List ExL) {i:Nat} (h:i<es.length):exsT (es.take (i+1))=exsT (es.take i) ++ ((if i=0 then [32] else [0]) ++ exT es[i]):=by
 rw [List.take_add_one,List.getElem?_eq_getElem h,Option.toList_some,exsT_snoc]
 have:(es.take i=[])↔i=0:=by
  constructor
  ·intro e; have:=congrArg List.length e; rw [List.length_take,List.length_nil] at this; omega
  ·rintro rfl; rfl
 by_cases hi:i=0
 ·rw [if_pos hi,if_pos (this.2 hi)]
 ·rw [if_neg hi,if_neg (fun e=>hi (this.1 e))]
theorem exsT_take_le (es:List ExL):∀ (k i:Nat),i+k=es.length→(exsT (es.take i)).length≤(exsT es).length
 | 0,i,h=>by rw [List.take_of_length_le (by omega)]; exact Nat.le_refl _
 | k+1,i,h=>by
  have ih:=exsT_take_le es k (i+1) (by omega)
  rw [exsT_take es (by omega),List.length_append] at ih; omega
def phiGP:Phi:=phiL [(61,[],grightS),(62,[],itoaS),(51,[],hexS),(63,[],gtoldS),(64,[],joinS)]
theorem phiGP_ok:PhiOk Tryz.prog phiGP:=phi_cons gright_ok (by kernel_rfl) (phi_cons ndec_ok (by kernel_rfl) (phi_cons hex_ok (by kernel_rfl) (phi_cons gtold_ok (by kernel_rfl) (phi_cons join_ok (by kernel_rfl) phi_nil))))
theorem phiGP_1:phiGP 61=some ([],grightS):=rfl
theorem phiGP_2:phiGP 62=some ([],itoaS):=rfl
theorem phiGP_3:phiGP 51=some ([],hexS):=rfl
theorem phiGP_4:phiGP 63=some ([],gtoldS):=rfl
theorem phiGP_5:phiGP 64=some ([],joinS):=rfl
set_option maxHeartbeats 4000000 in
theorem gprn_ok:FnOk Tryz.prog 36 gprnS:=by
 refine fn_slim2 Tryz.func36 s_gprn phiGP_ok ?_
 intro xs hp r hs hp'
 unfold gprnS at hs
 split at hs
 ·rename_i m u t z ke es kf fs d
  obtain ⟨⟨q1,q2,q3,q4,q5⟩,z1,z2,z3,z4,z5,z6,z7,z8,z9,z10,z11⟩:=gprnR_pre hs hp'
  generalize unV m=m at *
  subst q1
  generalize es.map unEx=es at *
  subst q2
  generalize fs.map unS=fs at *
  subst q3 q5
  simp only at z1 z2 z3 z4 z5 z6 z7 z8 z9 z10 z11
  refine ⟨len_le (by kernel_rfl),?_⟩
  have zk:∀ x∈es,x.1.length≤1000000000:=fun x hx=>by have:=(z5 x hx).1; omega
  have zf:∀ f∈fs,f.length≤1000000000:=fun f hf=>by have:=z6 f hf; omega
  cases hr:rightH ⟨m,u,t,z,es,fs,d⟩ with
  | false =>
   unfold gprnR at hs
   rw [if_neg (by rw [hr]; simp)] at hs
   injection hs with hs; subst hs
   simp only [c_gprn,r_gprn,phiGP_1,grightS,unV_U,unEx_map,unS_map,hr,List.length_map,go_sem,reduceDiv,reduceMod,↓reduceIte,reduceSub,reduceAdd,reduceLeDiff,reduceCtorEq]
   exact ⟨q4,Or.inl trivial,by omega,by omega,zk,zf,z2⟩
  | true =>
   unfold gprnR at hs
   rw [if_pos hr] at hs
   injection hs with hs; subst hs
   have l1:=Lib.itoa_length_le t z10.1 z10.2
   have l2:=Lib.itoa_length_le z z11.1 z11.2
   simp only [c_gprn,phiGP_1,phiGP_2,grightS,itoaS,unV_U,unEx_map,unS_map,hr,List.length_map,go_sem,reduceDiv,reduceMod,↓reduceIte,reduceSub,Nat.reduceLT,reduceAdd,reduceLeDiff,reduceCtorEq]
   refine ⟨⟨q4,Or.inl trivial,by omega,by omega,zk,zf,z2⟩,z10,by (first | omega | (simp only [lenOk]; omega)),z11,by (first | omega | (simp only [lenOk,List.length_append,List.length_cons,List.length_nil]; omega)),?_⟩
   refine loop2P [] [1,4,21,22,23] [0] (fun i:Nat=>⟨[(1,.ref 0 0 0),(4,.str (itoa t ++ 32 :: (itoa z ++ exsT (es.take i)))),(21,.sl ke (es.map exV)),(22,.int .i64 (es.length:Int)),(23,.int .i64 (i:Int))],[.cells 40 [(20,.blob (m.map U)),(1,.str u),(1,.int .i64 t),(1,.int .i64 z),(1,.sl ke (es.map exV)),(1,.sl 1 (fs.map AV.str)),(1,.str d)]]⟩)
    (fun i=>i≤es.length) (fun i=>es.length - i) 0 ?_ (Nat.zero_le _) ⟨rfl,by rfl⟩ (fun i hi R hR=>?_)
   ·have e0:itoa t ++ [32] ++ itoa z=itoa t ++ 32 :: itoa z:=by simp
    simp only [List.take_zero,exsT,List.append_nil,e0]
    rfl
   by_cases hil:i<es.length
   ·have c1:decide ((i:Int)<(es.length:Int))=true:=decide_eq_true (by omega)
    have hk:ke=2:=q4.resolve_right (by intro h; have:=congrArg List.length h; simp at this; rw [this] at hil; simp at hil)
    have hget:=getD_map exV es ([],[]) (AV.agg [(1,AV.str []),(1,AV.str [])]) hil
    have hga:es.getD i ([],[])=es[i]:=by simp [List.getD_eq_getElem?_getD,List.getElem?_eq_getElem hil]
    obtain ⟨x1,x2⟩:=z5 es[i] (List.getElem_mem _)
    have htk:=exsT_take es hil
    have hle:=exsT_take_le es (es.length - (i+1)) (i+1) (by omega)
    subst hk
    generalize es[i]=x at *
    have htl:=tol_len x.2
    rw [htk,List.length_append,List.length_append] at hle
    unfold exT at htk hle
    rw [List.length_append,List.length_cons] at hle
    by_cases h0:i=0
    ·have d0:decide ((i:Int)=0)=true:=decide_eq_true (by omega)
     rw [if_pos h0] at htk hle
     simp only [b_gprn_0,c1,d0,hget,hga,exV,phiGP_4,gtoldS,Int.toNat_natCast,List.length_map,go_sem,reduceDiv,reduceMod,↓reduceIte,reduceSub,Nat.reduceLT,reduceAdd,reduceLeDiff,reduceCtorEq]
     refine ⟨⟨by omega,by omega⟩,by (first | omega | (simp only [lenOk]; omega)),by (first | omega | (simp only [lenOk]; omega)),by omega,by (first | omega | (simp only [lenOk,List.length_append,List.length_cons,List.length_nil]; omega)),by (first | omega | (simp only [lenOk,List.length_append,List.length_cons,List.length_nil]; omega)),⟨by omega,by omega⟩,?_⟩
     have e:itoa t ++ 32 :: (itoa z ++ exsT (es.take (i+1)))=itoa t ++ 32 :: (itoa z ++ exsT (List.take i es)) ++ 32 :: (x.1 ++ [58] ++ tolL x.2):=by rw [htk]; simp
     rw [← e]
     exact hR _ (i+1) hil (by omega) rfl
    ·have d0:decide ((i:Int)=0)=false:=decide_eq_false (by omega)
     rw [if_neg h0] at htk hle
     simp only [b_gprn_0,c1,d0,hget,hga,exV,phiGP_4,gtoldS,Int.toNat_natCast,List.length_map,go_sem,reduceDiv,reduceMod,↓reduceIte,reduceSub,Nat.reduceLT,reduceAdd,reduceLeDiff,reduceCtorEq]
     refine ⟨⟨by omega,by omega⟩,by (first | omega | (simp only [lenOk]; omega)),by (first | omega | (simp only [lenOk]; omega)),by omega,by (first | omega | (simp only [lenOk,List.length_append,List.length_cons,List.length_nil]; omega)),by (first | omega | (simp only [lenOk,List.length_append,List.length_cons,List.length_nil]; omega)),⟨by omega,by omega⟩,?_⟩
     have e:itoa t ++ 32 :: (itoa z ++ exsT (es.take (i+1)))=itoa t ++ 32 :: (itoa z ++ exsT (List.take i es)) ++ 0 :: (x.1 ++ [58] ++ tolL x.2):=by rw [htk]; simp
     rw [← e]
     exact hR _ (i+1) hil (by omega) rfl
   ·have c1:decide ((i:Int)<(es.length:Int))=false:=decide_eq_false (by omega)
    rw [List.take_of_length_le (by omega)]
    simp only [b_gprn_0,t_gprn_0,r_gprn,c1,phiGP_3,phiGP_5,hexS,joinS,unV_U,List.length_map,go_sem,reduceDiv,reduceMod,↓reduceIte,reduceSub,Nat.reduceLT,reduceAdd,reduceLeDiff,reduceCtorEq]
    have eR:fs.map AV.str ++ [AV.str [],AV.str d]=(fs ++ [[],d]).map AV.str:=by simp
    have eJ:joinW [10] (unS (AV.str (hexL m)) :: unS (AV.str u) :: unS (AV.str (itoa t ++ 32 :: (itoa z ++ exsT es))) :: (fs ++ [[],d]))=bodyH ⟨m,u,t,z,es,fs,d⟩:=join_body _ _ _ _ _
    have hb:=body_len ⟨m,u,t,z,es,fs,d⟩
    have hh:=hexL_length m
    have hd:(dateT ⟨m,u,t,z,es,fs,d⟩).length=(itoa t).length+(1+(itoa z).length+(exsT es).length):=by unfold dateT; simp only [List.length_append,List.length_cons]; omega
    simp only at hb
    rw [eR,unS_map,List.length_map,List.length_append,eJ]
    have hs:sumL (unS (AV.str (hexL m)) :: unS (AV.str u) :: unS (AV.str (itoa t ++ 32 :: (itoa z ++ exsT es))) :: (fs ++ [[],d]))=(hexL m).length+(u.length+((dateT ⟨m,u,t,z,es,fs,d⟩).length+(sumL fs+d.length))):=by
     simp only [sumL,unS,dateT,List.map_cons,List.sum_cons,List.map_append,List.sum_append,List.map_nil,List.sum_nil,List.length_nil]; omega
    refine ⟨z1,⟨by (first | omega | (simp only [lenOk]; omega)),by (first | omega | (simp only [bytesOk]; omega))⟩,⟨by (first | omega | (simp only [lenOk,List.length_cons,List.length_nil]; omega)),by (first | omega | (simp only [bytesOk,List.length_cons,List.length_nil]; omega))⟩,⟨rfl,Or.inl trivial,by simp only [List.length_cons,List.length_nil]; omega,by rw [hs]; omega⟩,by (first | omega | (simp only [lenOk]; omega)),rfl⟩
 ·cases hs
end Go.Proofs.YtgaehhechonegaaGreatDoor
namespace Go.Proofs.YtgaehhechonegaaGreatDoor
open Go.RowKit
def fzD (hp:List AObj):Nat→AV→AV
 | 0,x=>x
 | d+1,x=>match x with
  | .own i ver=>match hp[i]? with
   | some (.row _ sz v xs)=>if v=ver∧0<sz then .sl sz xs else x
   | some (.froz sz v xs)=>if v=ver then .sl sz xs else x
   | _=>x
  | .agg ps=>.agg (ps.map fun p=>(p.1,fzD hp d p.2))
  | .con (.slice none 0 0)=>.sl 1 []
  | _=>x
def fzV (hp:List AObj):AV→AV
 | .tup l=>.tup (l.map (fzD hp 3))
 | x=>fzD hp 3 x
def pureV:AV→Bool
 | .tup l=>l.all (pureB 4)
 | x=>pureB 4 x
def rowsB (hp:List AObj):Bool:=hp.all fun o=>match o with | .row _ _ _ _=>true | .froz _ _ _=>true | _=>false
section
variable {P : Program} {f : FuncId} {sp sp1 : Spec} {w0 w : World} {F S : Nat → Prop} {ρ : Rho} {hp : List AObj}
def withRows (S:Nat→Prop) (ρ:Rho) (hp:List AObj) (b:Nat):Prop:=S b∨∃ (i:Nat) (o:AObj),hp[i]?=some o∧o.blk ρ i=some b
theorem cs_slice {x:AV} {v:Value} {A:Option Addr} {n c:Nat} {sz:Nat} {xs:List AV} (h:Vl w S ρ (.sl sz xs) (.slice A n c)):Cs w S ρ (.sl sz xs) [.slice A n c]:=by
 rcases h with h | ⟨us,h,h2⟩
 ·cases h
 ·cases h with
  | sl0 sz A' c' hc =>
   have e:(Value.slice A n c)=.slice A' 0 c' := h2
   rw [e]; exact .sl0 sz A' c' hc
  | sl sz xs us b o c' h1 h3 h4 h5 h6 h7 =>
   have e:(Value.slice A n c)=.slice (some ⟨b,o,none⟩) xs.length c' := h2
   rw [e]; exact .sl sz xs us b o c' h1 h3 h4 h5 h6 h7
theorem fzD_ok (H:HeapOk F w0 S ρ hp w):∀ (d:Nat) {x:AV} {us:List Value},Cs w S ρ x us→Cs w (withRows S ρ hp) ρ (fzD hp d x) us:=by
 have ext:∀ {x:AV} {us:List Value},Cs w S ρ x us→Cs w (withRows S ρ hp) ρ x us:=fun h=>h.ext (fun _ _=>rfl) (fun b hb=>Or.inl hb) (fun _ _ _ h=>h)
 intro d
 induction d with
 | zero=>intro x us h; exact ext h
 | succ d ih =>
  intro x us h
  cases x with
  | own i ver =>
   rw [fzD]
   cases ho:hp[i]? with
   | none=>exact ext h
   | some o =>
    cases o with
    | row e sz v xs =>
     simp only
     by_cases hc:v=ver∧0<sz
     ·rw [if_pos hc]
      obtain ⟨rfl,hsz⟩:=hc
      obtain ⟨L,us',o1,o2,o3,o4,o5,o6⟩:=H.ob i _ ho
      subst o3
      cases h with
      | own _ _ L' e1 =>
       rw [o1] at e1; injection e1 with e1; subst e1
       have hM:=o4.mem o2 o5
       have hblk:(AObj.row e L.sz v xs).blk ρ i=ablk L.A:=by simp [AObj.blk,o1]
       have hv:Vl w (withRows S ρ hp) ρ (.sl L.sz xs) (.slice L.A L.n L.c):=hM.sl hsz (fun b hb=>Or.inr ⟨i,_,ho,by rw [hblk]; exact hb⟩) (fun b hb=>Or.inl hb)
       exact cs_slice (x:=.top) (v:=undef) hv
     ·rw [if_neg hc]; exact ext h
    | cells _ _=>exact ext h
    | froz sz v xs =>
     simp only
     by_cases hc:v=ver
     ·rw [if_pos hc]
      subst hc
      obtain ⟨L,o1,o2,o3,o4⟩:=H.ob i _ ho
      cases h with
      | own _ _ L' e1 =>
       rw [o1] at e1; injection e1 with e1; subst e1
       exact o4.ext (fun _ _=>rfl) (fun b hb=>Or.inl hb) (fun _ _ _ h=>by cases h)
     ·rw [if_neg hc]; exact ext h
    | gone=>exact ext h
  | agg ps =>
   rw [fzD]
   cases h with
   | agg _ uss h1 h2 h3 =>
    have hl:(ps.map fun p=>(p.1,fzD hp d p.2)).length=ps.length:=List.length_map ..
    have hg:∀ i,i<ps.length→(ps.map fun p=>(p.1,fzD hp d p.2)).getD i (0,.top)=((ps.getD i (0,.top)).1,fzD hp d (ps.getD i (0,.top)).2):=fun i hi=>by
     simp [List.getD_eq_getElem?_getD,List.getElem?_map,List.getElem?_eq_getElem hi]
    refine .agg _ uss (by rw [hl]; exact h1) (fun i hi=>?_) (fun i hi=>?_)
    ·rw [hl] at hi; rw [hg i hi]; exact h2 i hi
    ·rw [hl] at hi; rw [hg i hi]; exact ih (h3 i hi)
  | con v =>
   cases v with
   | slice A n c =>
    cases A with
    | some a=>exact ext h
    | none =>
     cases n with
     | succ n=>exact ext h
     | zero =>
      cases c with
      | succ c=>exact ext h
      | zero =>
       cases h with
       | con _ _=>exact .sl0 1 none 0 (by omega)
   | _=>exact ext h
  | _=>exact ext h
theorem fzD_nt (hp:List AObj) (d:Nat) {x:AV} (h:∀ ys,x≠.tup ys):∀ ys,fzD hp d x≠.tup ys:=by
 intro ys
 cases d with
 | zero=>exact h ys
 | succ d =>
  cases x with
  | tup l=>exact absurd rfl (h l)
  | own i ver =>
   rw [fzD]
   cases hp[i]? with
   | none=>intro hh; cases hh
   | some o =>
    cases o with
    | row e sz v xs=>simp only; split <;> (intro hh; cases hh)
    | froz sz v xs=>simp only; split <;> (intro hh; cases hh)
    | _=>intro hh; cases hh
  | con v =>
   cases v with
   | slice A n c=>cases A <;> cases n <;> cases c <;> (intro hh; cases hh)
   | _=>intro hh; cases hh
  | _=>intro hh; cases hh
theorem fzD_wrap (hp:List AObj) (d:Nat) (x:AV) (us:List Value):wrapv (fzD hp d x) us=wrapv x us:=by
 cases d with
 | zero=>rfl
 | succ d =>
  cases x with
  | own i ver =>
   rw [fzD]
   cases hp[i]? with
   | none=>rfl
   | some o =>
    cases o with
    | row e sz v xs=>simp only; split <;> rfl
    | froz sz v xs=>simp only; split <;> rfl
    | _=>rfl
  | con v =>
   cases v with
   | slice A n c=>cases A <;> cases n <;> cases c <;> rfl
   | _=>rfl
  | _=>rfl
theorem FnOk.freezeD (h:FnOk P f sp1) (hh:∀ avs hp r',sp avs hp=some r' → r'.pre→hp=[]∧∃ r,sp1 avs []=some r∧r.pre∧rowsB r.hp=true∧r'.v=fzV r.hp r.v∧pureV r'.v=true∧r'.hp=[]):FnOk P f sp:=by
 intro avs hp r' hs hp' w S ρ args H ha
 obtain ⟨rfl,r,k1,k2,k3,k4,k5,k6⟩:=hh avs hp r' hs hp'
 refine (h avs [] r k1 k2 w S ρ args H ha).mono ?_
 rintro e0 w' ⟨v,S',ρ',rfl,hv,H',hE,hS⟩
 have one1:∀ x u,pureB 4 (fzD r.hp 3 x)=true→Vl1 w' S' ρ' x u→Vl1 w' (withRows S' ρ' r.hp) ρ (fzD r.hp 3 x) u:=by
  intro x u hx hu
  rcases hu with rfl | ⟨vs,hc,hu⟩
  ·exact .inl rfl
  ·exact .inr ⟨vs,pureB_ok 4 (fzD_ok H' 3 hc) hx,by rw [hu,fzD_wrap]⟩
 refine ⟨v,withRows S' ρ' r.hp,ρ,rfl,?_,?_,⟨hE.mem,fun b hb=>Or.inl (hE.st b hb),fun _ _ _ h=>h⟩,?_⟩
 ·rw [k4] at k5 ⊢
  cases hrv:r.v with
  | tup l =>
   rw [hrv] at hv k5
   obtain ⟨vs,e1,e2,e3⟩:=hv
   refine ⟨vs,e1,by simpa using e2,fun i hi=>?_⟩
   simp only [List.length_map] at hi
   have e4:(l.map (fzD r.hp 3)).getD i .top=fzD r.hp 3 (l.getD i .top):=by
    rw [List.getD_eq_getElem?_getD,List.getElem?_map,List.getD_eq_getElem?_getD,List.getElem?_eq_getElem hi]; rfl
   rw [e4]
   refine one1 _ _ ?_ (e3 i hi)
   have:=List.all_eq_true.1 k5 (fzD r.hp 3 (l.getD i .top)) (by
    rw [List.getD_eq_getElem?_getD,List.getElem?_eq_getElem hi]; exact List.mem_map_of_mem (List.getElem_mem _))
   exact this
  | _ =>
   rw [hrv] at hv k5
   have hnt:=fzD_nt r.hp 3 (x:=r.v) (by rw [hrv]; intro ys hy; cases hy)
   rw [hrv] at hnt
   refine Vl.of1 hnt (one1 _ v ?_ (Vl.to1 (by intro xs hx; cases hx) hv))
   revert k5
   simp only [fzV]
   unfold pureV
   split
   ·rename_i l hl; exact absurd hl (hnt l)
   ·exact id
 ·rw [k6]
  refine ⟨H'.kept,fun id o ho=>by simp at ho,fun i j x y _ hx=>by simp at hx,fun id o ho=>by simp at ho,fun b hb=>?_,fun id _ v=>H.new id (Nat.zero_le _) v,fun id o ho=>by simp at ho⟩
  rcases hb with hb | ⟨i,o,ho,hb⟩
  ·exact H'.slt b hb
  ·have hro:=List.all_eq_true.1 k3 o (List.mem_of_getElem? ho)
   cases o with
   | row e sz ver xs =>
    obtain ⟨L,us,o1,o2,o3,o4,o5,o6⟩:=H'.ob i _ ho
    have hblk:(AObj.row e sz ver xs).blk ρ' i=ablk L.A:=by simp [AObj.blk,o1]
    rw [hblk] at hb
    rcases o4.2 with ⟨z1,_,_⟩ | ⟨g,cur,fr,z1,z2,_⟩
    ·rw [z1] at hb; cases hb
    ·rw [z1] at hb
     have:g=b:=by simpa [ablk] using hb
     subst this
     exact (Array.getElem?_eq_some_iff.1 z2).1
   | froz sz ver xs=>cases hb
   | _=>cases hro
 ·rintro b (hb | ⟨i,o,ho,hb⟩)
  ·exact hS b hb
  ·rcases H'.mine i _ ho b hb with h1 | h1
   ·exact .inr (.inr h1)
   ·exact .inr (.inl h1)
end
end Go.Proofs.YtgaehhechonegaaGreatDoor
