import Derived.Test.YtakolikdebfkeaaDoorChecked
import Derived.Test.YtakolikdebfkeaaDoorQFDfl5
import Derived.Test.YtakolikdebfkeaaDoorQAMS
import Derived.Test.YtakolikdebfkeaaDoorQNumLaw
import Derived.Sort.OwnSorted
open Nat (reduceDiv reduceMod reduceSub reduceAdd reduceLeDiff reduceEqDiff)
set_option linter.all false
namespace Go.Proofs.YtakolikdebfkeaaDoor
open Go.RowKit
def c_right:ACode:=(.seq (.reg none [oS 2 (.mv (.c (.bool false)))]) (.seq (.reg none [oS 3 (.mv (.t 0)),oS 4 (.bin .geq (.t 3) (.c (.int .i64 0))),oS 5 (.mv (.t 4)),oG 6 (.mv (.t 0)) 5,oG 7 (.bin .lss (.t 6) (.c (.int .i64 4611686018427387904))) 5,oS 8 (.pick (.t 5) (.t 7) (.c (.bool false))),oS 2 (.mv (.t 8))]) .ret))
def r_right:List ARes:=[(.t 2)]
theorem s_right:slimF Tryd.prog Tryd.f52=some (c_right,r_right):=by kernel_rfl
theorem okN_ex:∃ f:Int→Bool,∀ n,f n=decide (0≤n∧n<4611686018427387904):=⟨fun n=>decide (0≤n∧n<4611686018427387904),fun _=>rfl⟩
noncomputable def okN:Int→Bool:=Classical.choose okN_ex
theorem okN_eq (n:Int):okN n=decide (0≤n∧n<4611686018427387904):=Classical.choose_spec okN_ex n
theorem okN_t {n:Int} (h:okN n=true):0≤n∧n<4611686018427387904:=of_decide_eq_true (by rw [← okN_eq]; exact h)
theorem okN_mk {n:Int} (h:0≤n) (h' : n<4611686018427387904):okN n=true:=by rw [okN_eq]; exact decide_eq_true ⟨h,h'⟩
theorem okN_no {n:Int} (h:n<0∨4611686018427387904≤n):okN n=false:=by rw [okN_eq]; exact decide_eq_false (by omega)
noncomputable def rightS:Spec:=fun xs hp=>match xs,hp with
 | [.int .i64 n],[]=>some ⟨.bool (okN n),[],True⟩
 | _,_=>none
theorem right_ok:FnOk Tryd.prog 52 rightS:=by
 refine fn_slim Tryd.func52 s_right (Φ:=phiL []) phi_nil ?_
 intro xs hp r hs hp'
 unfold rightS at hs
 split at hs
 ·injection hs with hs; subst hs
  rename_i n
  refine ⟨len_le (by kernel_rfl),?_⟩
  simp only [c_right,r_right,awp_scope,noG_n,noG_r,noG_x,awp_skip,awp_reg,awp_draw,awp_seq,awp_cond,awp_block,awp_loop,awp_exit,awp_ret,arun_nil,arun_op,arun_gt,arun_gf,arunD_nil,arunD_op,arunD_gt,arunD_gf,aq_some,isB_t,isB_u,isB_f,isB_g,isB_p,isU_t,isU_b,ifB_t,ifB_f,thenQ_n,thenQ_x,thenQ_r,inQ_n,inQ_r,inQ_x,retQ_n,retQ_r,exD,AOp.isH,keepN,preB,avalP,pureR,astep,stV,stN,stE,stC,aval,anew,aElems,frzS,frzH,aeff,slots,aret,ares,aress,AV.isTup,eqFs,aEqS,ofC_i,ofC_b,ofC_s,ofC_U,getD_mapU,getD_Bs,Bs_len,Int.toNat_natCast,opd,pt,tk,subp,rdP,Rt.size,Rt.isAgg,Rt.zv,aBin,aInt,aStr,arI,aUn,aToInt,aToStr,aIdxS,zv,aIdxA,aIa,aIaA,aFa,aLd,aFld,pparts,aLo,aHi,cutL,aSlS,aSl,aExt,aNck,aNilc,AV.isStr,aLen,AV.one,AV.multi,pureB,szOk,psz,drp,spl,aEqB,aEqA,aMm,aMkfn,aMkif,aBuild,toV,aBuildA,wrP,unparts,view,nilS,St.ev,lk,St.put,St.pin,St.pinV,acall0,acall1,acall2,acall3,bor,bor0,bor1,phiL_nil,phiL_at,tau,lentO,okIds,flatC,flatB,flatOs,flatO,flatPs,place,setAll_nil,setAll_cons,nodupB,renObj,closeIds,addNew,idsOf,idsObj,posOf,lenOk_0,lenOk_1,lenOk_2,lenOk_3,lenOk_4,lenOk_8,↓reduceIte,Option.isSome_none,Option.isSome_some,Bool.or_true,Bool.true_or, reduceEqDiff,Nat.reduceBEq,reduceSub,Nat.reduceLT,beq_self_eq_true,List.map,List.set,List.map_cons,List.map_nil,List.flatMap_cons,List.flatMap_nil,List.flatten_cons,List.flatten_nil,true_and,and_true,List.length_cons,List.length_nil,reduceAdd,reduceLeDiff,List.nil_append,List.cons_append,List.append_nil,Option.map,mapO,ren,kp,kpI,ent,nilG,Option.bind,List.range,List.range.loop,List.getElem?_cons_zero,List.getElem?_cons_succ,List.getElem?_nil,List.getD_cons_zero,List.getD_cons_succ,List.drop_zero,List.drop_succ_cons,List.drop_nil,List.take_zero,List.take_succ_cons,List.all_cons,List.all_nil,List.isEmpty_nil,List.isEmpty_cons,Bool.and_true,Bool.true_and,Bool.not_true,Bool.not_false,List.contains_nil,reduceCtorEq,List.contains_cons,Bool.or_false,Bool.false_or,eq_self,forall_const,false_implies,Bool.false_eq_true,Nat.le_refl,List.length_map,List.length_set,List.length_replicate,and_self,implies_true]
  refine ⟨fun h=>?_,fun h=>?_⟩
  ·have h1:=of_decide_eq_true h
   simp only [h,Bool.false_eq_true,renObj,finP,finI,closeIds,addNew,idsOf,List.flatMap_nil,List.flatMap_cons,List.append_nil,List.nil_append,List.take_zero,nodupB,posOf,idsObj,List.getD_cons_zero,List.getD_cons_succ,List.range,List.range.loop,ren,lentO,mapO,Option.map,↓reduceIte,reduceEqDiff,true_and,and_true,List.getElem?_cons_zero,List.getElem?_cons_succ,reduceAdd,List.contains_nil,Bool.not_false,Bool.and_true,List.map_nil,List.map_cons,List.take_succ_cons]
   have:okN n=decide (n<4611686018427387904):=by rw [okN_eq]; simp [h1]
   rw [this]
  ·have h1:=of_decide_eq_false h
   simp only [h,Bool.false_eq_true,renObj,finP,finI,closeIds,addNew,idsOf,List.flatMap_nil,List.flatMap_cons,List.append_nil,List.nil_append,List.take_zero,nodupB,posOf,idsObj,List.getD_cons_zero,List.getD_cons_succ,List.range,List.range.loop,ren,lentO,mapO,Option.map,↓reduceIte,reduceEqDiff,true_and,and_true,List.getElem?_cons_zero,List.getElem?_cons_succ,reduceAdd,List.contains_nil,Bool.not_false,Bool.and_true,List.map_nil,List.map_cons,List.take_succ_cons]
   have:okN n=false:=okN_no (by omega)
   rw [this]
 ·cases hs
end Go.Proofs.YtakolikdebfkeaaDoor
namespace Go.Proofs.YtakolikdebfkeaaDoor
open Go.RowKit
def b_be_0:ACode:=(.seq (.seq (.reg none [oS 11 (.mv (.t 6)),oS 12 (.bin .geq (.t 11) (.c (.int .i64 0)))]) (.cond (.t 12) .skip (.exit 0))) (.seq (.block 1 (.reg none [oS 15 (.mv (.t 5)),oS 16 (.mv (.t 0)),oS 17 (.mv (.t 6)),oS 18 (.bin .mul (.c (.int .i64 8)) (.t 17)),oS 19 (.bin .shr (.t 16) (.t 18)),oS 20 (.toInt .u8 (.t 19)),oS 21 (.buildSl 5 1 [(.t 20)]),oS 22 (.app 5 1 1 (.t 15) (.t 21)),oS 5 (.mv (.t 22))])) (.reg none [oS 13 (.mv (.t 6)),oS 14 (.bin .sub (.t 13) (.c (.int .i64 1))),oS 6 (.mv (.t 14))])))
def t_be_0:ACode:=(.seq (.reg none [oS 23 (.mv (.t 5)),oS 4 (.mv (.t 23))]) .ret)
def c_be:ACode:=(.seq (.reg none [oS 4 (.mv (.c (.con (.slice none 0 0))))]) (.seq (.reg none [oS 5 (.mv (.c (.con (.slice none 0 0))))]) (.seq (.seq (.reg none [oS 7 (.mv (.t 1)),oS 8 (.mm true (.t 7) (.c (.int .i64 0))),oS 9 (.mm false (.t 8) (.c (.int .i64 8))),oS 10 (.bin .sub (.t 9) (.c (.int .i64 1))),oS 6 (.mv (.t 10))]) (.block 0 (.loop b_be_0))) t_be_0)))
def r_be:List ARes:=[(.t 4)]
theorem s_be:slimF Tryd.prog Tryd.f44=some (c_be,r_be):=by kernel_rfl
def beK (z:Int):Nat:=(min (max z 0) 8).toNat
def beS:Spec:=fun xs hp=>match xs,hp with
 | [.int .u64 n,.int .i64 z],[]=>some ⟨.own 0 (beK z),[.row 5 1 (beK z) (Bs (beL n.toNat (beK z)))],0≤n∧n<18446744073709551616⟩
 | _,_=>none
theorem be_ok:FnOk Tryd.prog 44 beS:=by
 refine fn_slim Tryd.func44 s_be (Φ:=phiL []) phi_nil ?_
 intro xs hp r hs hp'
 unfold beS at hs
 split at hs
 ·injection hs with hs; subst hs
  rename_i n z
  refine ⟨len_le (by kernel_rfl),?_⟩
  obtain ⟨p1,p2⟩:=hp'
  obtain ⟨m,rfl⟩:∃ m:Nat,n=m:=⟨n.toNat,by omega⟩
  have hK:(beK z:Int)=min (max z 0) 8:=by unfold beK; omega
  have hK8:beK z≤8:=by unfold beK; omega
  generalize beK z=K at *
  simp only [c_be,r_be,← hK,Int.toNat_natCast,awp_scope,noG_n,noG_r,noG_x,awp_skip,awp_reg,awp_draw,awp_seq,awp_cond,awp_block,awp_loop,awp_exit,awp_ret,arun_nil,arun_op,arun_gt,arun_gf,arunD_nil,arunD_op,arunD_gt,arunD_gf,aq_some,isB_t,isB_u,isB_f,isB_g,isB_p,isU_t,isU_b,ifB_t,ifB_f,thenQ_n,thenQ_x,thenQ_r,inQ_n,inQ_r,inQ_x,retQ_n,retQ_r,exD,AOp.isH,keepN,preB,avalP,pureR,astep,stV,stN,stE,stC,aval,anew,aElems,frzS,frzH,aeff,slots,aret,ares,aress,AV.isTup,eqFs,aEqS,ofC_i,ofC_b,ofC_s,ofC_U,getD_mapU,getD_Bs,Bs_len,Int.toNat_natCast,opd,pt,tk,subp,rdP,Rt.size,Rt.isAgg,Rt.zv,aBin,aInt,aStr,arI,aUn,aToInt,aToStr,aIdxS,zv,aIdxA,aIa,aIaA,aFa,aLd,aFld,pparts,aLo,aHi,cutL,aSlS,aSl,aExt,aNck,aNilc,AV.isStr,aLen,AV.one,AV.multi,pureB,szOk,psz,drp,spl,aEqB,aEqA,aMm,aMkfn,aMkif,aBuild,toV,aBuildA,wrP,unparts,view,nilS,St.ev,lk,St.put,St.pin,St.pinV,acall0,acall1,acall2,acall3,bor,bor0,bor1,phiL_nil,phiL_at,tau,lentO,okIds,flatC,flatB,flatOs,flatO,flatPs,place,setAll_nil,setAll_cons,nodupB,renObj,closeIds,addNew,idsOf,idsObj,posOf,lenOk_0,lenOk_1,lenOk_2,lenOk_3,lenOk_4,lenOk_8,↓reduceIte,Option.isSome_none,Option.isSome_some,Bool.or_true,Bool.true_or, reduceEqDiff,Nat.reduceBEq,reduceSub,Nat.reduceLT,beq_self_eq_true,List.map,List.set,List.map_cons,List.map_nil,List.flatMap_cons,List.flatMap_nil,List.flatten_cons,List.flatten_nil,true_and,and_true,List.length_cons,List.length_nil,reduceAdd,reduceLeDiff,List.nil_append,List.cons_append,List.append_nil,Option.map,mapO,ren,kp,kpI,ent,nilG,Option.bind,List.range,List.range.loop,List.getElem?_cons_zero,List.getElem?_cons_succ,List.getElem?_nil,List.getD_cons_zero,List.getD_cons_succ,List.drop_zero,List.drop_succ_cons,List.drop_nil,List.take_zero,List.take_succ_cons,List.all_cons,List.all_nil,List.isEmpty_nil,List.isEmpty_cons,Bool.and_true,Bool.true_and,Bool.not_true,Bool.not_false,List.contains_nil,reduceCtorEq,List.contains_cons,Bool.or_false,Bool.false_or,eq_self,forall_const,false_implies,Bool.false_eq_true,Nat.le_refl,List.length_map,List.length_set,List.length_replicate,and_self,implies_true]
  simp only [inI]
  refine ⟨⟨by omega,by omega⟩,?_⟩
  refine loop_at [(5,5,1)] [0,5,6] [0] (fun j:Nat=>⟨[(0,.int .u64 (m:Int)),(5,.own 0 j),(6,.int .i64 ((K:Int) - 1 - j))],[.row 5 1 j (Bs (beL (m / 256 ^ (K - j)) j))]⟩) (fun j=>j≤K) (fun j=>K - j) 0 (by simp only [awp_scope,noG_n,noG_r,noG_x,awp_skip,awp_reg,awp_draw,awp_seq,awp_cond,awp_block,awp_loop,awp_exit,awp_ret,arun_nil,arun_op,arun_gt,arun_gf,arunD_nil,arunD_op,arunD_gt,arunD_gf,aq_some,isB_t,isB_u,isB_f,isB_g,isB_p,isU_t,isU_b,ifB_t,ifB_f,thenQ_n,thenQ_x,thenQ_r,inQ_n,inQ_r,inQ_x,retQ_n,retQ_r,exD,AOp.isH,keepN,preB,avalP,pureR,astep,stV,stN,stE,stC,aval,anew,aElems,frzS,frzH,aeff,slots,aret,ares,aress,AV.isTup,eqFs,aEqS,ofC_i,ofC_b,ofC_s,ofC_U,getD_mapU,getD_Bs,Bs_len,Int.toNat_natCast,opd,pt,tk,subp,rdP,Rt.size,Rt.isAgg,Rt.zv,aBin,aInt,aStr,arI,aUn,aToInt,aToStr,aIdxS,zv,aIdxA,aIa,aIaA,aFa,aLd,aFld,pparts,aLo,aHi,cutL,aSlS,aSl,aExt,aNck,aNilc,AV.isStr,aLen,AV.one,AV.multi,pureB,szOk,psz,drp,spl,aEqB,aEqA,aMm,aMkfn,aMkif,aBuild,toV,aBuildA,wrP,unparts,view,nilS,St.ev,lk,St.put,St.pin,St.pinV,acall0,acall1,acall2,acall3,bor,bor0,bor1,phiL_nil,phiL_at,tau,lentO,okIds,flatC,flatB,flatOs,flatO,flatPs,place,setAll_nil,setAll_cons,nodupB,renObj,closeIds,addNew,idsOf,idsObj,posOf,lenOk_0,lenOk_1,lenOk_2,lenOk_3,lenOk_4,lenOk_8,↓reduceIte,Option.isSome_none,Option.isSome_some,Bool.or_true,Bool.true_or, reduceEqDiff,Nat.reduceBEq,reduceSub,Nat.reduceLT,beq_self_eq_true,List.map,List.set,List.map_cons,List.map_nil,List.flatMap_cons,List.flatMap_nil,List.flatten_cons,List.flatten_nil,true_and,and_true,List.length_cons,List.length_nil,reduceAdd,reduceLeDiff,List.nil_append,List.cons_append,List.append_nil,Option.map,mapO,ren,kp,kpI,ent,nilG,Option.bind,List.range,List.range.loop,List.getElem?_cons_zero,List.getElem?_cons_succ,List.getElem?_nil,List.getD_cons_zero,List.getD_cons_succ,List.drop_zero,List.drop_succ_cons,List.drop_nil,List.take_zero,List.take_succ_cons,List.all_cons,List.all_nil,List.isEmpty_nil,List.isEmpty_cons,Bool.and_true,Bool.true_and,Bool.not_true,Bool.not_false,List.contains_nil,reduceCtorEq,List.contains_cons,Bool.or_false,Bool.false_or,eq_self,forall_const,false_implies,Bool.false_eq_true,Nat.le_refl,List.length_map,List.length_set,List.length_replicate,and_self,implies_true]; simp [beL,Bs]) (by omega) ⟨rfl,rfl⟩ (fun j hj=>?_)
  simp only [b_be_0,awp_scope,noG_n,noG_r,noG_x,awp_skip,awp_reg,awp_draw,awp_seq,awp_cond,awp_block,awp_loop,awp_exit,awp_ret,arun_nil,arun_op,arun_gt,arun_gf,arunD_nil,arunD_op,arunD_gt,arunD_gf,aq_some,isB_t,isB_u,isB_f,isB_g,isB_p,isU_t,isU_b,ifB_t,ifB_f,thenQ_n,thenQ_x,thenQ_r,inQ_n,inQ_r,inQ_x,retQ_n,retQ_r,exD,AOp.isH,keepN,preB,avalP,pureR,astep,stV,stN,stE,stC,aval,anew,aElems,frzS,frzH,aeff,slots,aret,ares,aress,AV.isTup,eqFs,aEqS,ofC_i,ofC_b,ofC_s,ofC_U,getD_mapU,getD_Bs,Bs_len,Int.toNat_natCast,opd,pt,tk,subp,rdP,Rt.size,Rt.isAgg,Rt.zv,aBin,aInt,aStr,arI,aUn,aToInt,aToStr,aIdxS,zv,aIdxA,aIa,aIaA,aFa,aLd,aFld,pparts,aLo,aHi,cutL,aSlS,aSl,aExt,aNck,aNilc,AV.isStr,aLen,AV.one,AV.multi,pureB,szOk,psz,drp,spl,aEqB,aEqA,aMm,aMkfn,aMkif,aBuild,toV,aBuildA,wrP,unparts,view,nilS,St.ev,lk,St.put,St.pin,St.pinV,acall0,acall1,acall2,acall3,bor,bor0,bor1,phiL_nil,phiL_at,tau,lentO,okIds,flatC,flatB,flatOs,flatO,flatPs,place,setAll_nil,setAll_cons,nodupB,renObj,closeIds,addNew,idsOf,idsObj,posOf,lenOk_0,lenOk_1,lenOk_2,lenOk_3,lenOk_4,lenOk_8,↓reduceIte,Option.isSome_none,Option.isSome_some,Bool.or_true,Bool.true_or, reduceEqDiff,Nat.reduceBEq,reduceSub,Nat.reduceLT,beq_self_eq_true,List.map,List.set,List.map_cons,List.map_nil,List.flatMap_cons,List.flatMap_nil,List.flatten_cons,List.flatten_nil,true_and,and_true,List.length_cons,List.length_nil,reduceAdd,reduceLeDiff,List.nil_append,List.cons_append,List.append_nil,Option.map,mapO,ren,kp,kpI,ent,nilG,Option.bind,List.range,List.range.loop,List.getElem?_cons_zero,List.getElem?_cons_succ,List.getElem?_nil,List.getD_cons_zero,List.getD_cons_succ,List.drop_zero,List.drop_succ_cons,List.drop_nil,List.take_zero,List.take_succ_cons,List.all_cons,List.all_nil,List.isEmpty_nil,List.isEmpty_cons,Bool.and_true,Bool.true_and,Bool.not_true,Bool.not_false,List.contains_nil,reduceCtorEq,List.contains_cons,Bool.or_false,Bool.false_or,eq_self,forall_const,false_implies,Bool.false_eq_true,Nat.le_refl,List.length_map,List.length_set,List.length_replicate,and_self,implies_true]
  refine ⟨fun h=>?_,fun h=>?_⟩
  ·have h:=of_decide_eq_true h
   have hb:(beL (m / 256 ^ (K - j)) j).length=j:=beL_len _ _
   have e1:(8 * ((K:Int) - 1 - j)).toNat=8 * (K - 1 - j):=by omega
   have e2:((m:Int) / 2 ^ (8 * (K - 1 - j)))=((m / 256 ^ (K - 1 - j):Nat):Int):=by
    rw [show (256:Nat) ^ (K - 1 - j)=2 ^ (8 * (K - 1 - j)) by rw [Nat.pow_mul]]; push_cast; rfl
   rw [e1,e2]
   simp only [lenOk,bytesOk,inI,List.length_append,Bs_len,hb,List.length_cons,List.length_nil]
   repeat' apply And.intro
   any_goals (first | omega | (simp only [lenOk,bytesOk,inI,IntKind.bits,List.length_append,Bs_len,List.length_cons,List.length_nil,List.length_map,List.length_take,List.length_drop,List.length_replicate]; omega))
   refine ⟨j+1,by omega,by omega,?_⟩
   have e3:m / 256 ^ (K - j)=m / 256 ^ (K - 1 - j) / 256:=by
    rw [Nat.div_div_eq_div_mul,show K - j=K - 1 - j+1 by omega,Nat.pow_succ]
   rw [e3,show K - (j+1)=K - 1 - j by omega]
   rw [show (K:Int) - 1 - (j+1:Nat)=K - 1 - j - 1 by omega]
   simp only [beL,Bs,List.map_append,List.map_cons,List.map_nil,ub_wrap]
  ·have h:=of_decide_eq_false h
   have:j=K:=by omega
   subst this
   simp only [t_be_0,r_be,awp_scope,noG_n,noG_r,noG_x,awp_skip,awp_reg,awp_draw,awp_seq,awp_cond,awp_block,awp_loop,awp_exit,awp_ret,arun_nil,arun_op,arun_gt,arun_gf,arunD_nil,arunD_op,arunD_gt,arunD_gf,aq_some,isB_t,isB_u,isB_f,isB_g,isB_p,isU_t,isU_b,ifB_t,ifB_f,thenQ_n,thenQ_x,thenQ_r,inQ_n,inQ_r,inQ_x,retQ_n,retQ_r,exD,AOp.isH,keepN,preB,avalP,pureR,astep,stV,stN,stE,stC,aval,anew,aElems,frzS,frzH,aeff,slots,aret,ares,aress,AV.isTup,eqFs,aEqS,ofC_i,ofC_b,ofC_s,ofC_U,getD_mapU,getD_Bs,Bs_len,Int.toNat_natCast,opd,pt,tk,subp,rdP,Rt.size,Rt.isAgg,Rt.zv,aBin,aInt,aStr,arI,aUn,aToInt,aToStr,aIdxS,zv,aIdxA,aIa,aIaA,aFa,aLd,aFld,pparts,aLo,aHi,cutL,aSlS,aSl,aExt,aNck,aNilc,AV.isStr,aLen,AV.one,AV.multi,pureB,szOk,psz,drp,spl,aEqB,aEqA,aMm,aMkfn,aMkif,aBuild,toV,aBuildA,wrP,unparts,view,nilS,St.ev,lk,St.put,St.pin,St.pinV,acall0,acall1,acall2,acall3,bor,bor0,bor1,phiL_nil,phiL_at,tau,lentO,okIds,flatC,flatB,flatOs,flatO,flatPs,place,setAll_nil,setAll_cons,nodupB,renObj,closeIds,addNew,idsOf,idsObj,posOf,lenOk_0,lenOk_1,lenOk_2,lenOk_3,lenOk_4,lenOk_8,↓reduceIte,Option.isSome_none,Option.isSome_some,Bool.or_true,Bool.true_or, reduceEqDiff,Nat.reduceBEq,reduceSub,Nat.reduceLT,beq_self_eq_true,List.map,List.set,List.map_cons,List.map_nil,List.flatMap_cons,List.flatMap_nil,List.flatten_cons,List.flatten_nil,true_and,and_true,List.length_cons,List.length_nil,reduceAdd,reduceLeDiff,List.nil_append,List.cons_append,List.append_nil,Option.map,mapO,ren,kp,kpI,ent,nilG,Option.bind,List.range,List.range.loop,List.getElem?_cons_zero,List.getElem?_cons_succ,List.getElem?_nil,List.getD_cons_zero,List.getD_cons_succ,List.drop_zero,List.drop_succ_cons,List.drop_nil,List.take_zero,List.take_succ_cons,List.all_cons,List.all_nil,List.isEmpty_nil,List.isEmpty_cons,Bool.and_true,Bool.true_and,Bool.not_true,Bool.not_false,List.contains_nil,reduceCtorEq,List.contains_cons,Bool.or_false,Bool.false_or,eq_self,forall_const,false_implies,Bool.false_eq_true,Nat.le_refl,List.length_map,List.length_set,List.length_replicate,and_self,implies_true]
   simp only [Nat.sub_self,Nat.pow_zero,Nat.div_one,Bool.false_eq_true,renObj,finP,finI,closeIds,addNew,idsOf,List.flatMap_nil,List.flatMap_cons,List.append_nil,List.nil_append,List.take_zero,nodupB,posOf,idsObj,List.getD_cons_zero,List.getD_cons_succ,List.range,List.range.loop,ren,lentO,mapO,Option.map,↓reduceIte,reduceEqDiff,true_and,and_true,List.getElem?_cons_zero,List.getElem?_cons_succ,reduceAdd,List.contains_nil,Bool.not_false,Bool.and_true,List.map_nil,List.map_cons,List.take_succ_cons]
 ·cases hs
def b_leb_0:ACode:=(.seq (.seq (.reg none [oS 7 (.mv (.t 0)),oS 8 (.bin .gtr (.t 7) (.c (.int .i64 127)))]) (.cond (.t 8) .skip (.exit 0))) (.seq (.block 1 (.reg none [oS 11 (.mv (.t 3)),oS 12 (.mv (.t 0)),oS 13 (.toInt .u8 (.t 12)),oS 14 (.bin .or (.t 13) (.c (.int .u8 128))),oS 15 (.buildSl 5 1 [(.t 14)]),oS 16 (.app 5 1 1 (.t 11) (.t 15)),oS 3 (.mv (.t 16))])) (.reg none [oS 9 (.mv (.t 0)),oS 10 (.bin .shr (.t 9) (.c (.int .u64 7))),oS 0 (.mv (.t 10))])))
def t_leb_0:ACode:=(.seq (.reg none [oS 17 (.mv (.t 3)),oS 18 (.mv (.t 0)),oS 19 (.toInt .u8 (.t 18)),oS 20 (.buildSl 5 1 [(.t 19)]),oS 21 (.app 5 1 1 (.t 17) (.t 20)),oS 2 (.mv (.t 21))]) .ret)
def c_leb:ACode:=(.seq (.reg none [oS 2 (.mv (.c (.con (.slice none 0 0))))]) (.seq (.seq (.reg none [oS 4 (.mv (.t 0)),oS 5 (.call 52 [(.t 4)]),oS 6 (.un .not (.t 5))]) (.cond (.t 6) (.seq (.reg none [oS 2 (.mv (.c (.con (.slice none 0 0))))]) .ret) .skip)) (.seq (.reg none [oS 3 (.mv (.c (.con (.slice none 0 0))))]) (.seq (.block 0 (.loop b_leb_0)) t_leb_0))))
def r_leb:List ARes:=[(.t 2)]
theorem s_leb:slimF Tryd.prog Tryd.f61=some (c_leb,r_leb):=by kernel_rfl
noncomputable def lebS:Spec:=fun xs hp=>match xs,hp with
 | [.int .i64 n],[]=>if okN n=true then some ⟨.own 0 (lebL n.toNat).length,[.row 5 1 (lebL n.toNat).length (Bs (lebL n.toNat))],True⟩ else some ⟨.con (.slice none 0 0),[],True⟩
 | _,_=>none
theorem leb_ok:FnOk Tryd.prog 61 lebS:=by
 refine fn_slim Tryd.func61 s_leb (Φ:=phiL [(52,[],rightS)]) (phi_cons right_ok (by kernel_rfl) phi_nil) ?_
 intro xs hp r hs hp'
 unfold lebS at hs
 split at hs
 ·rename_i n
  refine ⟨len_le (by kernel_rfl),?_⟩
  rcases Bool.eq_false_or_eq_true (okN n) with ho | ho
  ·rw [if_pos ho] at hs
   injection hs with hs; subst hs
   simp only [c_leb,r_leb,rightS,ho,awp_scope,noG_n,noG_r,noG_x,awp_skip,awp_reg,awp_draw,awp_seq,awp_cond,awp_block,awp_loop,awp_exit,awp_ret,arun_nil,arun_op,arun_gt,arun_gf,arunD_nil,arunD_op,arunD_gt,arunD_gf,aq_some,isB_t,isB_u,isB_f,isB_g,isB_p,isU_t,isU_b,ifB_t,ifB_f,thenQ_n,thenQ_x,thenQ_r,inQ_n,inQ_r,inQ_x,retQ_n,retQ_r,exD,AOp.isH,keepN,preB,avalP,pureR,astep,stV,stN,stE,stC,aval,anew,aElems,frzS,frzH,aeff,slots,aret,ares,aress,AV.isTup,eqFs,aEqS,ofC_i,ofC_b,ofC_s,ofC_U,getD_mapU,getD_Bs,Bs_len,Int.toNat_natCast,opd,pt,tk,subp,rdP,Rt.size,Rt.isAgg,Rt.zv,aBin,aInt,aStr,arI,aUn,aToInt,aToStr,aIdxS,zv,aIdxA,aIa,aIaA,aFa,aLd,aFld,pparts,aLo,aHi,cutL,aSlS,aSl,aExt,aNck,aNilc,AV.isStr,aLen,AV.one,AV.multi,pureB,szOk,psz,drp,spl,aEqB,aEqA,aMm,aMkfn,aMkif,aBuild,toV,aBuildA,wrP,unparts,view,nilS,St.ev,lk,St.put,St.pin,St.pinV,acall0,acall1,acall2,acall3,bor,bor0,bor1,phiL_nil,phiL_at,tau,lentO,okIds,flatC,flatB,flatOs,flatO,flatPs,place,setAll_nil,setAll_cons,nodupB,renObj,closeIds,addNew,idsOf,idsObj,posOf,lenOk_0,lenOk_1,lenOk_2,lenOk_3,lenOk_4,lenOk_8,↓reduceIte,Option.isSome_none,Option.isSome_some,Bool.or_true,Bool.true_or, reduceEqDiff,Nat.reduceBEq,reduceSub,Nat.reduceLT,beq_self_eq_true,List.map,List.set,List.map_cons,List.map_nil,List.flatMap_cons,List.flatMap_nil,List.flatten_cons,List.flatten_nil,true_and,and_true,List.length_cons,List.length_nil,reduceAdd,reduceLeDiff,List.nil_append,List.cons_append,List.append_nil,Option.map,mapO,ren,kp,kpI,ent,nilG,Option.bind,List.range,List.range.loop,List.getElem?_cons_zero,List.getElem?_cons_succ,List.getElem?_nil,List.getD_cons_zero,List.getD_cons_succ,List.drop_zero,List.drop_succ_cons,List.drop_nil,List.take_zero,List.take_succ_cons,List.all_cons,List.all_nil,List.isEmpty_nil,List.isEmpty_cons,Bool.and_true,Bool.true_and,Bool.not_true,Bool.not_false,List.contains_nil,reduceCtorEq,List.contains_cons,Bool.or_false,Bool.false_or,eq_self,forall_const,false_implies,Bool.false_eq_true,Nat.le_refl,List.length_map,List.length_set,List.length_replicate,and_self,implies_true]
   obtain ⟨h0,h1⟩:=okN_t ho
   obtain ⟨m,rfl⟩:∃ m:Nat,n=m:=⟨n.toNat,by omega⟩
   simp only [Int.toNat_natCast]
   refine loop_at [(3,5,1)] [0,3] [0] (fun a:List UInt8 × Nat=>⟨[(0,.int .i64 (a.2:Int)),(3,.own 0 a.1.length)],[.row 5 1 a.1.length (Bs a.1)]⟩) (fun a=>a.1 ++ lebL a.2=lebL m∧a.2<4611686018427387904) (fun a=>a.2) ([],m) rfl ⟨rfl,by simp only; omega⟩ ⟨rfl,rfl⟩ (fun a ha=>?_)
   obtain ⟨pre,cur⟩:=a
   obtain ⟨ha,hb⟩:=ha
   simp only at ha hb
   have hl:=lebL_len (n:=m) (by omega)
   have hl2:=congrArg List.length ha
   have hl3:=lebL_pos cur
   rw [List.length_append] at hl2
   have ew:IntKind.u8.wrap (cur:Int)=((cur % 256:Nat):Int):=by rw [IntKind.wrap_u8']; omega
   simp only [b_leb_0,ew,awp_scope,noG_n,noG_r,noG_x,awp_skip,awp_reg,awp_draw,awp_seq,awp_cond,awp_block,awp_loop,awp_exit,awp_ret,arun_nil,arun_op,arun_gt,arun_gf,arunD_nil,arunD_op,arunD_gt,arunD_gf,aq_some,isB_t,isB_u,isB_f,isB_g,isB_p,isU_t,isU_b,ifB_t,ifB_f,thenQ_n,thenQ_x,thenQ_r,inQ_n,inQ_r,inQ_x,retQ_n,retQ_r,exD,AOp.isH,keepN,preB,avalP,pureR,astep,stV,stN,stE,stC,aval,anew,aElems,frzS,frzH,aeff,slots,aret,ares,aress,AV.isTup,eqFs,aEqS,ofC_i,ofC_b,ofC_s,ofC_U,getD_mapU,getD_Bs,Bs_len,Int.toNat_natCast,opd,pt,tk,subp,rdP,Rt.size,Rt.isAgg,Rt.zv,aBin,aInt,aStr,arI,aUn,aToInt,aToStr,aIdxS,zv,aIdxA,aIa,aIaA,aFa,aLd,aFld,pparts,aLo,aHi,cutL,aSlS,aSl,aExt,aNck,aNilc,AV.isStr,aLen,AV.one,AV.multi,pureB,szOk,psz,drp,spl,aEqB,aEqA,aMm,aMkfn,aMkif,aBuild,toV,aBuildA,wrP,unparts,view,nilS,St.ev,lk,St.put,St.pin,St.pinV,acall0,acall1,acall2,acall3,bor,bor0,bor1,phiL_nil,phiL_at,tau,lentO,okIds,flatC,flatB,flatOs,flatO,flatPs,place,setAll_nil,setAll_cons,nodupB,renObj,closeIds,addNew,idsOf,idsObj,posOf,lenOk_0,lenOk_1,lenOk_2,lenOk_3,lenOk_4,lenOk_8,↓reduceIte,Option.isSome_none,Option.isSome_some,Bool.or_true,Bool.true_or, reduceEqDiff,Nat.reduceBEq,reduceSub,Nat.reduceLT,beq_self_eq_true,List.map,List.set,List.map_cons,List.map_nil,List.flatMap_cons,List.flatMap_nil,List.flatten_cons,List.flatten_nil,true_and,and_true,List.length_cons,List.length_nil,reduceAdd,reduceLeDiff,List.nil_append,List.cons_append,List.append_nil,Option.map,mapO,ren,kp,kpI,ent,nilG,Option.bind,List.range,List.range.loop,List.getElem?_cons_zero,List.getElem?_cons_succ,List.getElem?_nil,List.getD_cons_zero,List.getD_cons_succ,List.drop_zero,List.drop_succ_cons,List.drop_nil,List.take_zero,List.take_succ_cons,List.all_cons,List.all_nil,List.isEmpty_nil,List.isEmpty_cons,Bool.and_true,Bool.true_and,Bool.not_true,Bool.not_false,List.contains_nil,reduceCtorEq,List.contains_cons,Bool.or_false,Bool.false_or,eq_self,forall_const,false_implies,Bool.false_eq_true,Nat.le_refl,List.length_map,List.length_set,List.length_replicate,and_self,implies_true]
   refine ⟨fun h=>?_,fun h=>?_⟩
   ·have h:=of_decide_eq_true h
    have hc:128≤cur:=by omega
    have eo:bits .or .u8 ((cur % 256:Nat):Int) 128=((cur % 128+128:Nat):Int):=by
     have:=u8_or_nat (cur % 256) 128 (by omega) (by omega)
     rw [or_128 _ (by omega),show cur % 256 % 128=cur % 128 by omega] at this
     exact this
    have ed:(cur:Int) / 2 ^ (7:Int).toNat=((cur / 128:Nat):Int):=by rw [show (2:Int) ^ (7:Int).toNat=128 from rfl]; omega
    rw [eo,ed]
    simp only [List.length_append,Bs_len,List.length_cons,List.length_nil]
    repeat' apply And.intro
    any_goals (first | omega | (simp only [lenOk,bytesOk,inI,IntKind.bits,List.length_append,Bs_len,List.length_cons,List.length_nil,List.length_map,List.length_take,List.length_drop,List.length_replicate]; omega))
    refine ⟨(pre ++ [o8 (cur % 128+128)],cur / 128),⟨?_,by simp only; omega⟩,by simp only; omega,?_⟩
    ·simp only
     rw [List.append_assoc,List.singleton_append,← lebL_big hc,ha]
    ·simp only [List.length_append,List.length_cons,List.length_nil,Bs,List.map_append,List.map_cons,List.map_nil,ub_low _ (show cur % 128+128<256 by omega)]
   ·have h:=of_decide_eq_false h
    have hc:cur<128:=by omega
    rw [lebL_small hc] at ha hl2
    simp only [t_leb_0,r_leb,ew,Nat.mod_eq_of_lt (show cur<256 by omega),awp_scope,noG_n,noG_r,noG_x,awp_skip,awp_reg,awp_draw,awp_seq,awp_cond,awp_block,awp_loop,awp_exit,awp_ret,arun_nil,arun_op,arun_gt,arun_gf,arunD_nil,arunD_op,arunD_gt,arunD_gf,aq_some,isB_t,isB_u,isB_f,isB_g,isB_p,isU_t,isU_b,ifB_t,ifB_f,thenQ_n,thenQ_x,thenQ_r,inQ_n,inQ_r,inQ_x,retQ_n,retQ_r,exD,AOp.isH,keepN,preB,avalP,pureR,astep,stV,stN,stE,stC,aval,anew,aElems,frzS,frzH,aeff,slots,aret,ares,aress,AV.isTup,eqFs,aEqS,ofC_i,ofC_b,ofC_s,ofC_U,getD_mapU,getD_Bs,Bs_len,Int.toNat_natCast,opd,pt,tk,subp,rdP,Rt.size,Rt.isAgg,Rt.zv,aBin,aInt,aStr,arI,aUn,aToInt,aToStr,aIdxS,zv,aIdxA,aIa,aIaA,aFa,aLd,aFld,pparts,aLo,aHi,cutL,aSlS,aSl,aExt,aNck,aNilc,AV.isStr,aLen,AV.one,AV.multi,pureB,szOk,psz,drp,spl,aEqB,aEqA,aMm,aMkfn,aMkif,aBuild,toV,aBuildA,wrP,unparts,view,nilS,St.ev,lk,St.put,St.pin,St.pinV,acall0,acall1,acall2,acall3,bor,bor0,bor1,phiL_nil,phiL_at,tau,lentO,okIds,flatC,flatB,flatOs,flatO,flatPs,place,setAll_nil,setAll_cons,nodupB,renObj,closeIds,addNew,idsOf,idsObj,posOf,lenOk_0,lenOk_1,lenOk_2,lenOk_3,lenOk_4,lenOk_8,↓reduceIte,Option.isSome_none,Option.isSome_some,Bool.or_true,Bool.true_or, reduceEqDiff,Nat.reduceBEq,reduceSub,Nat.reduceLT,beq_self_eq_true,List.map,List.set,List.map_cons,List.map_nil,List.flatMap_cons,List.flatMap_nil,List.flatten_cons,List.flatten_nil,true_and,and_true,List.length_cons,List.length_nil,reduceAdd,reduceLeDiff,List.nil_append,List.cons_append,List.append_nil,Option.map,mapO,ren,kp,kpI,ent,nilG,Option.bind,List.range,List.range.loop,List.getElem?_cons_zero,List.getElem?_cons_succ,List.getElem?_nil,List.getD_cons_zero,List.getD_cons_succ,List.drop_zero,List.drop_succ_cons,List.drop_nil,List.take_zero,List.take_succ_cons,List.all_cons,List.all_nil,List.isEmpty_nil,List.isEmpty_cons,Bool.and_true,Bool.true_and,Bool.not_true,Bool.not_false,List.contains_nil,reduceCtorEq,List.contains_cons,Bool.or_false,Bool.false_or,eq_self,forall_const,false_implies,Bool.false_eq_true,Nat.le_refl,List.length_map,List.length_set,List.length_replicate,and_self,implies_true]
    rw [← ha,Bs_append,← Bs_o8 cur (by omega)]
    simp only [List.length_append,Bs_len,List.length_cons,List.length_nil,Bool.false_eq_true,renObj,finP,finI,closeIds,addNew,idsOf,List.flatMap_nil,List.flatMap_cons,List.append_nil,List.nil_append,List.take_zero,nodupB,posOf,idsObj,List.getD_cons_zero,List.getD_cons_succ,List.range,List.range.loop,ren,lentO,mapO,Option.map,↓reduceIte,reduceEqDiff,true_and,and_true,List.getElem?_cons_zero,List.getElem?_cons_succ,reduceAdd,List.contains_nil,Bool.not_false,Bool.and_true,List.map_nil,List.map_cons,List.take_succ_cons]
    repeat' apply And.intro
    any_goals (first | omega | (simp only [lenOk,bytesOk,inI,IntKind.bits,List.length_append,Bs_len,List.length_cons,List.length_nil,List.length_map,List.length_take,List.length_drop,List.length_replicate]; omega))
  ·rw [if_neg (by simp [ho])] at hs
   injection hs with hs; subst hs
   simp only [c_leb,r_leb,rightS,ho,awp_scope,noG_n,noG_r,noG_x,awp_skip,awp_reg,awp_draw,awp_seq,awp_cond,awp_block,awp_loop,awp_exit,awp_ret,arun_nil,arun_op,arun_gt,arun_gf,arunD_nil,arunD_op,arunD_gt,arunD_gf,aq_some,isB_t,isB_u,isB_f,isB_g,isB_p,isU_t,isU_b,ifB_t,ifB_f,thenQ_n,thenQ_x,thenQ_r,inQ_n,inQ_r,inQ_x,retQ_n,retQ_r,exD,AOp.isH,keepN,preB,avalP,pureR,astep,stV,stN,stE,stC,aval,anew,aElems,frzS,frzH,aeff,slots,aret,ares,aress,AV.isTup,eqFs,aEqS,ofC_i,ofC_b,ofC_s,ofC_U,getD_mapU,getD_Bs,Bs_len,Int.toNat_natCast,opd,pt,tk,subp,rdP,Rt.size,Rt.isAgg,Rt.zv,aBin,aInt,aStr,arI,aUn,aToInt,aToStr,aIdxS,zv,aIdxA,aIa,aIaA,aFa,aLd,aFld,pparts,aLo,aHi,cutL,aSlS,aSl,aExt,aNck,aNilc,AV.isStr,aLen,AV.one,AV.multi,pureB,szOk,psz,drp,spl,aEqB,aEqA,aMm,aMkfn,aMkif,aBuild,toV,aBuildA,wrP,unparts,view,nilS,St.ev,lk,St.put,St.pin,St.pinV,acall0,acall1,acall2,acall3,bor,bor0,bor1,phiL_nil,phiL_at,tau,lentO,okIds,flatC,flatB,flatOs,flatO,flatPs,place,setAll_nil,setAll_cons,nodupB,renObj,closeIds,addNew,idsOf,idsObj,posOf,lenOk_0,lenOk_1,lenOk_2,lenOk_3,lenOk_4,lenOk_8,↓reduceIte,Option.isSome_none,Option.isSome_some,Bool.or_true,Bool.true_or, reduceEqDiff,Nat.reduceBEq,reduceSub,Nat.reduceLT,beq_self_eq_true,List.map,List.set,List.map_cons,List.map_nil,List.flatMap_cons,List.flatMap_nil,List.flatten_cons,List.flatten_nil,true_and,and_true,List.length_cons,List.length_nil,reduceAdd,reduceLeDiff,List.nil_append,List.cons_append,List.append_nil,Option.map,mapO,ren,kp,kpI,ent,nilG,Option.bind,List.range,List.range.loop,List.getElem?_cons_zero,List.getElem?_cons_succ,List.getElem?_nil,List.getD_cons_zero,List.getD_cons_succ,List.drop_zero,List.drop_succ_cons,List.drop_nil,List.take_zero,List.take_succ_cons,List.all_cons,List.all_nil,List.isEmpty_nil,List.isEmpty_cons,Bool.and_true,Bool.true_and,Bool.not_true,Bool.not_false,List.contains_nil,reduceCtorEq,List.contains_cons,Bool.or_false,Bool.false_or,eq_self,forall_const,false_implies,Bool.false_eq_true,Nat.le_refl,List.length_map,List.length_set,List.length_replicate,and_self,implies_true]
   simp only [Bool.false_eq_true,renObj,finP,finI,closeIds,addNew,idsOf,List.flatMap_nil,List.flatMap_cons,List.append_nil,List.nil_append,List.take_zero,nodupB,posOf,idsObj,List.getD_cons_zero,List.getD_cons_succ,List.range,List.range.loop,ren,lentO,mapO,Option.map,↓reduceIte,reduceEqDiff,true_and,and_true,List.getElem?_cons_zero,List.getElem?_cons_succ,reduceAdd,List.contains_nil,Bool.not_false,Bool.and_true,List.map_nil,List.map_cons,List.take_succ_cons]
 ·cases hs
end Go.Proofs.YtakolikdebfkeaaDoor
namespace Go.Proofs.YtakolikdebfkeaaDoor
open Go.RowKit
open Go.Sort (Holds putRow grow putCells heap_grow_old)
section
variable {P : Program} {α : Type} [Inhabited α] (enc : α → Value) (av : α → AV) (dec : AV → α)
end
end Go.Proofs.YtakolikdebfkeaaDoor
namespace Go.Proofs.YtakolikdebfkeaaDoor
open Go.RowKit
theorem u8_or128 (n:Nat) (h:n<256):bits .or .u8 (n:Int) 128=((n % 128+128:Nat):Int):=by
 have:=u8_or_nat n 128 h (by omega)
 rw [or_128 _ h] at this
 exact this
theorem and_15 (n:Nat) (h:n<9223372036854775808):bits .and .i64 (n:Int) 15=((n % 16:Nat):Int):=by
 have:=i64_and n 15 h (by omega)
 rw [nat_mask4] at this
 exact this
def k_head_4:ACode:=(.seq (.reg none [oS 27 (.mv (.t 5)),oS 28 (.bin .or (.t 27) (.c (.int .u8 128))),oS 29 (.buildSl 5 1 [(.t 28)]),oS 30 (.mv (.t 1)),oS 31 (.bin .shr (.t 30) (.c (.int .u64 4))),oS 32 (.call 61 [(.t 31)]),oS 33 (.app 5 1 1 (.t 29) (.t 32)),oS 4 (.mv (.t 33))]) .ret)
def k_head_3:ACode:=(.seq (.seq (.reg none [oS 23 (.mv (.t 1)),oS 24 (.bin .lss (.t 23) (.c (.int .i64 16)))]) (.cond (.t 24) (.seq (.reg none [oS 25 (.mv (.t 5)),oS 26 (.buildSl 5 1 [(.t 25)]),oS 4 (.mv (.t 26))]) .ret) .skip)) k_head_4)
def c_head:ACode:=(.seq (.reg none [oS 4 (.mv (.c (.con (.slice none 0 0))))]) (.seq (.seq (.reg none [oS 6 (.mv (.t 0)),oS 7 (.bin .lss (.t 6) (.c (.int .i64 0))),oS 8 (.mv (.t 7)),oH 9 (.mv (.t 0)) 8,oH 10 (.bin .gtr (.t 9) (.c (.int .i64 7))) 8,oS 11 (.pick (.t 8) (.c (.bool true)) (.t 10)),oS 12 (.mv (.t 11)),oH 13 (.mv (.t 1)) 12,oH 14 (.call 52 [(.t 13)]) 12,oH 15 (.un .not (.t 14)) 12,oS 16 (.pick (.t 12) (.c (.bool true)) (.t 15))]) (.cond (.t 16) (.seq (.reg none [oS 4 (.mv (.c (.con (.slice none 0 0))))]) .ret) .skip)) (.seq (.reg none [oS 17 (.mv (.t 0)),oS 18 (.bin .shl (.t 17) (.c (.int .u64 4))),oS 19 (.mv (.t 1)),oS 20 (.bin .and (.t 19) (.c (.int .i64 15))),oS 21 (.bin .or (.t 18) (.t 20)),oS 22 (.toInt .u8 (.t 21)),oS 5 (.mv (.t 22))]) k_head_3)))
def r_head:List ARes:=[(.t 4)]
theorem s_head:slimF Tryd.prog Tryd.f43=some (c_head,r_head):=by kernel_rfl
noncomputable def okH (k n:Int):Bool:=decide (0≤k∧k≤7) && okN n
def hdV (n:Nat):Nat:=if n<16 then 0 else 1
noncomputable def headS:Spec:=fun xs hp=>match xs,hp with
 | [.int .i64 k,.int .i64 n],[]=>if okH k n=true then some ⟨.own 0 (hdV n.toNat),[.row 5 1 (hdV n.toNat) (Bs (headL k.toNat n.toNat))],True⟩ else some ⟨.con (.slice none 0 0),[],True⟩
 | _,_=>none
theorem head_first (k n:Nat) (hk:k≤7) (hn:n<16):bits .or .i64 ((k:Int) * 2 ^ 4) (n:Int)=((16 * k+n:Nat):Int):=by
 have e:(k:Int) * 2 ^ 4=((16 * k:Nat):Int):=by rw [show (2:Int) ^ 4=16 from rfl]; omega
 rw [e,i64_or _ _ (by omega) (by omega),nat_join 4 (16 * k) n (by omega) (by omega)]
theorem sh_4 (n:Nat):(n:Int) / 2 ^ 4=((n / 16:Nat):Int):=by rw [show (2:Int) ^ 4=16 from rfl]; omega
theorem head_ok:FnOk Tryd.prog 43 headS:=by
 refine fn_slim2 Tryd.func43 s_head (Φ:=phiL [(52,[],rightS),(61,[],lebS)]) (phi_cons right_ok (by kernel_rfl) (phi_cons leb_ok (by kernel_rfl) phi_nil)) ?_
 intro xs hp r hs hp'
 unfold headS at hs
 split at hs
 ·rename_i k n
  refine ⟨len_le (by kernel_rfl),?_⟩
  rcases Bool.eq_false_or_eq_true (okH k n) with ho | ho
  ·rw [if_pos ho] at hs
   injection hs with hs; subst hs
   simp only [okH,Bool.and_eq_true] at ho
   obtain ⟨hk,ho⟩:=ho
   have hk:=of_decide_eq_true hk
   obtain ⟨h0,h1⟩:=okN_t ho
   obtain ⟨m,rfl⟩:∃ m:Nat,n=m:=⟨n.toNat,by omega⟩
   obtain ⟨j,rfl⟩:∃ m:Nat,k=m:=⟨k.toNat,by omega⟩
   have o2:okN ((m / 16:Nat):Int)=true:=okN_mk (by omega) (by omega)
   have hl:=lebL_len (n:=m / 16) (by omega)
   have d1:decide ((j:Int)<0)=false:=decide_eq_false (by omega)
   have d2:decide (7<(j:Int))=false:=decide_eq_false (by omega)
   have ej:inI ((j:Int) * 2 ^ 4):=by rw [show (2:Int) ^ 4=16 from rfl]; unfold inI; omega
   by_cases hm:m<16
   ·have d3:decide ((m:Int)<16)=true:=decide_eq_true (by omega)
    have e1:hdV m=0:=if_pos hm
    have e2:headL j m=[o8 (16 * j+m)]:=if_pos hm
    simp only [c_head,rightS,lebS,ho,d1,d2,go_sem,reduceDiv,reduceMod,↓reduceIte,reduceEqDiff,Nat.reduceBEq,reduceSub,Nat.reduceLT,reduceAdd,reduceLeDiff,reduceCtorEq,Int.reduceEq,Int.reduceNe,Int.reduceLT,Int.reduceLE,Int.reduceToNat]
    refine ⟨ej,?_⟩
    simp only [k_head_3,r_head,Int.toNat_natCast,d3,e1,e2,and_15 m (by omega),head_first j m (by omega) hm,wrap8n (show 16 * j+m<256 by omega),← Bs_o8 _ (show 16 * j+m<256 by omega),Nat.mod_eq_of_lt hm,go_sem,reduceDiv,reduceMod,↓reduceIte,reduceEqDiff,Nat.reduceBEq,reduceSub,Nat.reduceLT,reduceAdd,reduceLeDiff,reduceCtorEq,Int.reduceEq,Int.reduceNe,Int.reduceLT,Int.reduceLE,Int.reduceToNat]
   ·have d3:decide ((m:Int)<16)=false:=decide_eq_false (by omega)
    have e1:hdV m=1:=if_neg hm
    have e2:headL j m=o8 (128+16 * j+m % 16) :: lebL (m / 16):=if_neg hm
    have e3:(16 * j+m % 16) % 128+128=128+16 * j+m % 16:=by omega
    have e4:∀ l,Bs (o8 (128+16 * j+m % 16) :: l)=[.int .u8 ((128+16 * j+m % 16:Nat):Int)] ++ Bs l:=fun l=>by rw [Bs_o8 _ (by omega)]; rfl
    simp only [c_head,rightS,lebS,ho,d1,d2,and_15 m (by omega),head_first j (m % 16) (by omega) (by omega),wrap8n (show 16 * j+m % 16<256 by omega),go_sem,reduceDiv,reduceMod,↓reduceIte,reduceEqDiff,Nat.reduceBEq,reduceSub,Nat.reduceLT,reduceAdd,reduceLeDiff,reduceCtorEq,Int.reduceEq,Int.reduceNe,Int.reduceLT,Int.reduceLE,Int.reduceToNat]
    refine ⟨ej,?_⟩
    simp only [k_head_3,d3,go_sem,reduceDiv,reduceMod,↓reduceIte,reduceEqDiff,Nat.reduceBEq,reduceSub,Nat.reduceLT,reduceAdd,reduceLeDiff,reduceCtorEq,Int.reduceEq,Int.reduceNe,Int.reduceLT,Int.reduceLE,Int.reduceToNat]
    simp only [k_head_4,r_head,rightS,lebS,ho,Int.toNat_natCast,e1,e2,e3,e4,o2,sh_4,u8_or128 _ (show 16 * j+m % 16<256 by omega),go_sem,reduceDiv,reduceMod,↓reduceIte,reduceEqDiff,Nat.reduceBEq,reduceSub,Nat.reduceLT,reduceAdd,reduceLeDiff,reduceCtorEq,Int.reduceEq,Int.reduceNe,Int.reduceLT,Int.reduceLE,Int.reduceToNat]
    repeat' apply And.intro
    any_goals (first | exact ej | (first | omega | (simp only [lenOk,bytesOk,inI,IntKind.bits,List.length_append,Bs_len,List.length_cons,List.length_nil,List.length_map,List.length_take,List.length_drop,List.length_replicate]; omega)))
  ·rw [if_neg (by simp [ho])] at hs
   injection hs with hs; subst hs
   have ho2:(k<0∨7<k)∨((0≤k∧k≤7)∧okN n=false):=by
    simp only [okH,Bool.and_eq_false_iff] at ho
    rcases ho with h | h
    ·have:=of_decide_eq_false h; left; omega
    ·by_cases hk:0≤k∧k≤7
     ·exact .inr ⟨hk,h⟩
     ·left; omega
   rcases ho2 with (h | h) | ⟨h,h2⟩
   ·have d1:decide (k<0)=true:=decide_eq_true h
    simp only [c_head,r_head,rightS,lebS,d1,go_sem,reduceDiv,reduceMod,↓reduceIte,reduceEqDiff,Nat.reduceBEq,reduceSub,Nat.reduceLT,reduceAdd,reduceLeDiff,reduceCtorEq,Int.reduceEq,Int.reduceNe,Int.reduceLT,Int.reduceLE,Int.reduceToNat]
   ·have d1:decide (k<0)=false:=decide_eq_false (by omega)
    have d2:decide (7<k)=true:=decide_eq_true h
    simp only [c_head,r_head,rightS,lebS,d1,d2,go_sem,reduceDiv,reduceMod,↓reduceIte,reduceEqDiff,Nat.reduceBEq,reduceSub,Nat.reduceLT,reduceAdd,reduceLeDiff,reduceCtorEq,Int.reduceEq,Int.reduceNe,Int.reduceLT,Int.reduceLE,Int.reduceToNat]
   ·have d1:decide (k<0)=false:=decide_eq_false (by omega)
    have d2:decide (7<k)=false:=decide_eq_false (by omega)
    simp only [c_head,r_head,rightS,lebS,d1,d2,h2,go_sem,reduceDiv,reduceMod,↓reduceIte,reduceEqDiff,Nat.reduceBEq,reduceSub,Nat.reduceLT,reduceAdd,reduceLeDiff,reduceCtorEq,Int.reduceEq,Int.reduceNe,Int.reduceLT,Int.reduceLE,Int.reduceToNat]
 ·cases hs
end Go.Proofs.YtakolikdebfkeaaDoor
