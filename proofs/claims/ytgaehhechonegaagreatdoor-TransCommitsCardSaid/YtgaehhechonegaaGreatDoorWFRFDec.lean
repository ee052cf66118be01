import Derived.Test.YtgaehhechonegaaGreatDoorWRDec
import Derived.Test.YtgaehhechonegaaGreatDoorWRComCode
import Derived.Test.YtgaehhechonegaaGreatDoorWShaParse
open Nat (reduceDiv reduceMod reduceSub reduceAdd reduceLeDiff reduceEqDiff)
set_option linter.all false
namespace Go.Proofs.YtgaehhechonegaaGreatDoor
open Go.RowKit
open Go.Lib (decDigits itoa atoiAll)
def b_rfdec_0:ACode:=(.seq (.seq (.reg none [oS 25 (.mv (.t 5)),oS 26 (.mv (.t 0)),oS 27 (.len none true (.t 26)),oS 28 (.bin .lss (.t 25) (.t 27))]) (.cond (.t 28) .skip (.exit 0))) (.seq (.block 1 (.seq (.seq (.reg none [oS 31 (.mv (.t 0)),oS 32 (.mv (.t 5)),oS 33 (.idxS (.t 31) (.t 32)),oS 34 (.bin .lss (.t 33) (.c (.int .u8 48))),oS 35 (.mv (.t 34)),oH 36 (.mv (.t 0)) 35,oH 37 (.mv (.t 5)) 35,oH 38 (.idxS (.t 36) (.t 37)) 35,oH 39 (.bin .gtr (.t 38) (.c (.int .u8 57))) 35,oS 40 (.pick (.t 35) (.c (.bool true)) (.t 39))]) (.cond (.t 40) (.seq (.reg none [oS 2 (.mv (.c (.int .i64 0))),oS 3 (.mv (.c (.bool false)))]) .ret) .skip)) (.seq (.reg none [oS 41 (.mv (.t 0)),oS 42 (.mv (.t 5)),oS 43 (.idxS (.t 41) (.t 42)),oS 44 (.toInt .i64 (.t 43)),oS 45 (.bin .sub (.t 44) (.c (.int .i64 48))),oS 6 (.mv (.t 45))]) (.seq (.seq (.reg none [oS 46 (.mv (.t 4)),oS 47 (.mv (.t 6)),oS 48 (.bin .sub (.c (.int .i64 4611686018427387903)) (.t 47)),oS 49 (.bin .quo (.t 48) (.c (.int .i64 10))),oS 50 (.bin .gtr (.t 46) (.t 49))]) (.cond (.t 50) (.seq (.reg none [oS 2 (.mv (.c (.int .i64 0))),oS 3 (.mv (.c (.bool false)))]) .ret) .skip)) (.reg none [oS 51 (.mv (.t 4)),oS 52 (.bin .mul (.c (.int .i64 10)) (.t 51)),oS 53 (.mv (.t 6)),oS 54 (.bin .add (.t 52) (.t 53)),oS 4 (.mv (.t 54))]))))) (.reg none [oS 29 (.mv (.t 5)),oS 30 (.bin .add (.t 29) (.c (.int .i64 1))),oS 5 (.mv (.t 30))])))
def t_rfdec_0:ACode:=(.seq (.reg none [oS 55 (.mv (.t 4)),oS 2 (.mv (.t 55)),oS 3 (.mv (.c (.bool true)))]) .ret)
def c_rfdec:ACode:=(.seq (.reg none [oS 2 (.mv (.c (.int .i64 0))),oS 3 (.mv (.c (.bool false)))]) (.seq (.seq (.reg none [oS 7 (.mv (.t 0)),oS 8 (.len none true (.t 7)),oS 9 (.bin .eql (.t 8) (.c (.int .i64 0))),oS 10 (.mv (.t 9)),oH 11 (.mv (.t 0)) 10,oH 12 (.len none true (.t 11)) 10,oH 13 (.bin .gtr (.t 12) (.c (.int .i64 19))) 10,oS 14 (.pick (.t 10) (.c (.bool true)) (.t 13)),oS 15 (.mv (.t 14)),oH 16 (.mv (.t 0)) 15,oH 17 (.len none true (.t 16)) 15,oH 18 (.bin .gtr (.t 17) (.c (.int .i64 1))) 15,oH 19 (.mv (.t 18)) 15,oG 20 (.mv (.t 0)) 19,oG 21 (.idxS (.t 20) (.c (.int .i64 0))) 19,oG 22 (.bin .eql (.t 21) (.c (.int .u8 48))) 19,oH 23 (.pick (.t 19) (.t 22) (.c (.bool false))) 15,oS 24 (.pick (.t 15) (.c (.bool true)) (.t 23))]) (.cond (.t 24) (.seq (.reg none [oS 2 (.mv (.c (.int .i64 0))),oS 3 (.mv (.c (.bool false)))]) .ret) .skip)) (.seq (.reg none [oS 4 (.mv (.c (.int .i64 0)))]) (.seq (.seq (.reg none [oS 5 (.mv (.c (.int .i64 0)))]) (.block 0 (.loop b_rfdec_0))) t_rfdec_0))))
def r_rfdec:List ARes:=[(.t 2),(.t 3)]
theorem s_rfdec:slimF Tryz.prog Tryz.f86=some (c_rfdec,r_rfdec):=by kernel_rfl
noncomputable def rfdecS:Spec:=fun xs hp=>match xs,hp with
 | [.str s],[]=>some ⟨.tup [.int .i64 (decN s:Int),.bool (decB s)],[],s.length≤1000000⟩
 | _,_=>none
theorem rgo_cons (acc:Nat) (c:UInt8) (r:List UInt8):rgo acc (c :: r)=if c.toNat<48∨57<c.toNat then none else if (4611686018427387903 - (c.toNat - 48)) / 10<acc then none else rgo (10 * acc+(c.toNat - 48)) r:=rfl
theorem rfdec_ok:FnOk Tryz.prog 86 rfdecS:=by
 refine fn_slim Tryz.func86 s_rfdec (Φ:=phiL []) phi_nil ?_
 intro xs hp r hs hp'
 unfold rfdecS at hs
 split at hs
 ·injection hs with hs; subst hs
  rename_i s
  refine ⟨len_le (by kernel_rfl),?_⟩
  have hl:s.length≤1000000:=hp'
  have hrd:=rdecV_eq s
  have a0:at8 s (Int.toNat 0)=((s.getD 0 0).toNat:Int):=rfl
  by_cases hg:s.length=0∨19<s.length∨(1<s.length∧(s.getD 0 0).toNat=48)
  ·have e:decV s=none:=by rw [← hrd]; exact if_pos hg
   have e1:=decB_none e
   have e2:=decN_f e
   by_cases g1:s.length=0
   ·have d1:decide ((s.length:Int)=0)=true:=decide_eq_true (by omega)
    simp only [c_rfdec,r_rfdec,d1,e1,e2,awp_reg,awp_seq,awp_cond,awp_ret,arun_nil,arun_op,arun_gt,arun_gf,aq_some,isB_t,isB_u,isB_p,isU_t,thenQ_n,thenQ_r,retQ_r,astep,stV,aval,slots,aret,ares,aress,AV.isTup,aBin,aInt,AV.isStr,aLen,St.ev,lk,St.put,St.pin,St.pinV,↓reduceIte,Option.isSome_none,Bool.or_true,reduceEqDiff,beq_self_eq_true,true_and,List.length_nil,reduceCtorEq,eq_self,Bool.false_eq_true,and_self]
    simp only [renObj,finP,finI,closeIds,addNew,idsOf,List.flatMap_nil,List.flatMap_cons,List.append_nil,List.take_zero,nodupB,posOf,idsObj,List.range,List.range.loop,ren,lentO,mapO,Option.map,true_and,and_true]
    simp
   ·have d1:decide ((s.length:Int)=0)=false:=decide_eq_false (by omega)
    by_cases g2:19<s.length
    ·have d2:decide ((19:Int)<(s.length:Int))=true:=decide_eq_true (by omega)
     simp only [c_rfdec,r_rfdec,d1,d2,e1,e2,awp_reg,awp_seq,awp_cond,awp_ret,arun_nil,arun_op,arun_gt,arun_gf,aq_some,isB_t,isB_u,isB_f,isB_p,isU_t,thenQ_n,thenQ_r,retQ_r,astep,stV,aval,slots,aret,ares,aress,AV.isTup,aBin,aInt,AV.isStr,aLen,St.ev,lk,St.put,St.pin,St.pinV,↓reduceIte,Option.isSome_none,Bool.or_true,reduceEqDiff,beq_self_eq_true,true_and,List.length_nil,reduceCtorEq,eq_self,Bool.false_eq_true,and_self]
     simp only [renObj,finP,finI,closeIds,addNew,idsOf,List.flatMap_nil,List.flatMap_cons,List.append_nil,List.take_zero,nodupB,posOf,idsObj,List.range,List.range.loop,ren,lentO,mapO,Option.map,true_and,and_true]
     simp
    ·have d2:decide ((19:Int)<(s.length:Int))=false:=decide_eq_false (by omega)
     have g3:1<s.length∧(s.getD 0 0).toNat=48:=by omega
     have d3:decide ((1:Int)<(s.length:Int))=true:=decide_eq_true (by omega)
     have d4:decide (((s.getD 0 0).toNat:Int)=48)=true:=decide_eq_true (by omega)
     simp only [c_rfdec,r_rfdec,d1,d2,d3,a0,d4,e1,e2,awp_reg,awp_seq,awp_cond,awp_ret,arun_nil,arun_op,arun_gt,arun_gf,aq_some,isB_t,isB_f,thenQ_n,thenQ_r,retQ_r,astep,stV,aval,slots,aret,ares,aress,AV.isTup,aBin,aInt,aIdxS,AV.isStr,aLen,St.ev,lk,St.put,St.pin,↓reduceIte,Option.isSome_none,Bool.or_true,reduceEqDiff,beq_self_eq_true,true_and,List.length_nil,reduceCtorEq,eq_self,Bool.false_eq_true,and_self]
     simp only [renObj,finP,finI,closeIds,addNew,idsOf,List.flatMap_nil,List.flatMap_cons,List.append_nil,List.take_zero,nodupB,posOf,idsObj,List.range,List.range.loop,ren,lentO,mapO,Option.map,true_and,and_true]
     exact ⟨⟨by omega,by omega⟩,by simp⟩
  ·have e:decV s=rgo 0 s:=by rw [← hrd]; exact if_neg hg
   have d1:decide ((s.length:Int)=0)=false:=decide_eq_false (by omega)
   have d2:decide ((19:Int)<(s.length:Int))=false:=decide_eq_false (by omega)
   by_cases g3:1<s.length
   ·have d3:decide ((1:Int)<(s.length:Int))=true:=decide_eq_true (by omega)
    have d4:decide (((s.getD 0 0).toNat:Int)=48)=false:=decide_eq_false (by omega)
    simp only [c_rfdec,d1,d2,d3,a0,d4,awp_skip,awp_reg,awp_seq,awp_cond,awp_block,awp_loop,arun_nil,arun_op,arun_gt,arun_gf,aq_some,isB_t,isB_f,isB_g,thenQ_n,astep,stV,aval,slots,aBin,aInt,aIdxS,AV.isStr,aLen,St.ev,lk,St.put,St.pin,↓reduceIte,Option.isSome_none,Bool.or_true,reduceEqDiff,beq_self_eq_true,true_and,List.length_nil,reduceCtorEq,eq_self,Bool.false_eq_true]
    refine ⟨⟨by omega,by omega⟩,?_⟩
    refine loop_at [] [0,4,5] [] (fun a:Nat × Nat=>⟨[(0,.str s),(4,.int .i64 (a.2:Int)),(5,.int .i64 (a.1:Int))],[]⟩) (fun a=>a.1≤s.length∧a.2<4611686018427387904∧decV s=rgo a.2 (s.drop a.1)) (fun a=>s.length - a.1) (0,0) rfl ⟨by simp,by simp,e⟩ ⟨rfl,rfl⟩ (fun a ha=>?_)
    obtain ⟨i,acc⟩:=a
    obtain ⟨i1,i2,i3⟩:=ha
    simp only at i1 i2 i3
    by_cases hil:i<s.length
    ·have c1:decide ((i:Int)<(s.length:Int))=true:=decide_eq_true (by omega)
     have hdr:s.drop i=s.getD i 0 :: s.drop (i+1):=by
      rw [List.drop_eq_getElem_cons hil,List.getD_eq_getElem?_getD,List.getElem?_eq_getElem hil]; rfl
     have hat:at8 s i=((s.getD i 0).toNat:Int):=rfl
     have hc:=(s.getD i 0).toNat_lt
     rw [hdr,rgo_cons] at i3
     generalize s.getD i 0=c at *
     by_cases h1:c.toNat<48
     ·have c2:decide ((c.toNat:Int)<48)=true:=decide_eq_true (by omega)
      rw [if_pos (by omega)] at i3
      simp only [b_rfdec_0,r_rfdec,c1,hat,c2,decB_none i3,decN_f i3,awp_skip,awp_reg,awp_seq,awp_cond,awp_block,awp_ret,arun_nil,arun_op,arun_gf,aq_some,isB_t,isB_u,thenQ_n,thenQ_r,inQ_r,retQ_r,astep,stV,aval,aret,ares,aress,AV.isTup,Int.toNat_natCast,aBin,aInt,aIdxS,AV.isStr,aLen,St.ev,lk,St.put,St.pin,lentO,renObj,posOf,↓reduceIte,Option.isSome_none,Bool.or_true,reduceEqDiff,beq_self_eq_true,true_and,List.length_nil,Option.map,mapO,ren,kp,List.range,List.range.loop,reduceCtorEq,eq_self,Bool.false_eq_true,and_self]
      simp only [renObj,finP,finI,closeIds,addNew,idsOf,List.flatMap_nil,List.flatMap_cons,List.append_nil,List.take_zero,nodupB,posOf,idsObj,List.range,List.range.loop,ren,lentO,mapO,Option.map,true_and,and_true]
      exact ⟨⟨by omega,by omega⟩,by simp⟩
     ·have c2:decide ((c.toNat:Int)<48)=false:=decide_eq_false (by omega)
      by_cases h2:57<c.toNat
      ·have c3:decide ((57:Int)<(c.toNat:Int))=true:=decide_eq_true (by omega)
       rw [if_pos (by omega)] at i3
       simp only [b_rfdec_0,r_rfdec,c1,hat,c2,c3,decB_none i3,decN_f i3,awp_skip,awp_reg,awp_seq,awp_cond,awp_block,awp_ret,arun_nil,arun_op,arun_gf,aq_some,isB_t,isB_f,thenQ_n,thenQ_r,inQ_r,retQ_r,astep,stV,aval,aret,ares,aress,AV.isTup,Int.toNat_natCast,aBin,aInt,aIdxS,AV.isStr,aLen,St.ev,lk,St.put,St.pin,lentO,renObj,posOf,↓reduceIte,Option.isSome_none,Bool.or_true,reduceEqDiff,beq_self_eq_true,true_and,List.length_nil,Option.map,mapO,ren,kp,List.range,List.range.loop,reduceCtorEq,eq_self,Bool.false_eq_true,and_self]
       simp only [renObj,finP,finI,closeIds,addNew,idsOf,List.flatMap_nil,List.flatMap_cons,List.append_nil,List.take_zero,nodupB,posOf,idsObj,List.range,List.range.loop,ren,lentO,mapO,Option.map,true_and,and_true]
       exact ⟨⟨by omega,by omega⟩,⟨by omega,by omega⟩,by simp⟩
      ·have c3:decide ((57:Int)<(c.toNat:Int))=false:=decide_eq_false (by omega)
       rw [if_neg (by omega)] at i3
       obtain ⟨d,hd⟩:∃ d:Nat,c.toNat=48+d:=⟨c.toNat - 48,by omega⟩
       have hd9:d<10:=by omega
       rw [hd,show 48+d - 48=d by omega] at i3
       have e1:((48+d:Nat):Int) - 48=(d:Int):=by omega
       have e2:4611686018427387903 - (d:Int)=((4611686018427387903 - d:Nat):Int):=by omega
       have e3:((4611686018427387903 - d:Nat):Int).tdiv 10=(((4611686018427387903 - d) / 10:Nat):Int):=tdiv_nat _ 10
       have hdl:List.length [0]=1:=rfl
       rw [hd] at c2 c3 hat
       by_cases h3:(4611686018427387903 - d) / 10<acc
       ·have c4:decide ((((4611686018427387903 - d) / 10:Nat):Int)<(acc:Int))=true:=decide_eq_true (by omega)
        rw [if_pos h3] at i3
        simp only [b_rfdec_0,r_rfdec,c1,hat,c2,c3,e1,e2,e3,c4,decB_none i3,decN_f i3,awp_skip,awp_reg,awp_seq,awp_cond,awp_block,awp_ret,arun_nil,arun_op,arun_gf,aq_some,isB_t,isB_f,isB_g,thenQ_n,thenQ_r,inQ_r,retQ_r,astep,stV,aval,aret,ares,aress,AV.isTup,Int.toNat_natCast,aBin,aInt,arI,aToInt,aIdxS,AV.isStr,aLen,St.ev,lk,St.put,St.pin,lentO,renObj,posOf,↓reduceIte,Option.isSome_none,Bool.or_true,reduceEqDiff,beq_self_eq_true,true_and,List.length_nil,Option.map,mapO,ren,kp,List.range,List.range.loop,reduceCtorEq,eq_self,Bool.false_eq_true,and_self]
        simp only [renObj,finP,finI,closeIds,addNew,idsOf,List.flatMap_nil,List.flatMap_cons,List.append_nil,List.take_zero,nodupB,posOf,idsObj,List.range,List.range.loop,ren,lentO,mapO,Option.map,true_and,and_true]
        exact ⟨⟨by omega,by omega⟩,⟨by omega,by omega⟩,⟨by omega,by omega⟩,by (first | omega | (simp only [inI]; omega)),by (first | omega | (simp only [inI]; omega)),by (first | omega | (simp only [inI]; omega)),⟨by omega,by (first | omega | (simp only [inI]; omega))⟩,by simp⟩
       ·have c4:decide ((((4611686018427387903 - d) / 10:Nat):Int)<(acc:Int))=false:=decide_eq_false (by omega)
        rw [if_neg h3] at i3
        simp only [b_rfdec_0,r_rfdec,c1,hat,c2,c3,e1,e2,e3,c4,awp_skip,awp_reg,awp_seq,awp_cond,awp_block,arun_nil,arun_op,arun_gf,aq_some,isB_t,isB_f,isB_g,thenQ_n,inQ_n,astep,stV,aval,Int.toNat_natCast,aBin,aInt,arI,aToInt,aIdxS,AV.isStr,aLen,St.ev,lk,St.put,St.pin,lentO,renObj,posOf,↓reduceIte,Option.isSome_none,Bool.or_true,reduceEqDiff,beq_self_eq_true,true_and,List.length_nil,Option.map,mapO,ren,kp,List.range,List.range.loop,reduceCtorEq,eq_self,Bool.false_eq_true]
        exact ⟨⟨by omega,by omega⟩,⟨by omega,by omega⟩,⟨by omega,by omega⟩,by (first | omega | (simp only [inI]; omega)),by (first | omega | (simp only [inI]; omega)),by (first | omega | (simp only [inI]; omega)),⟨by omega,by (first | omega | (simp only [inI]; omega))⟩,by (first | omega | (simp only [inI]; omega)),by (first | omega | (simp only [inI]; omega)),by (first | omega | (simp only [inI]; omega)),(i+1,10 * acc+d),⟨by simp only; omega,by simp only; omega,i3⟩,by simp only; omega,by simp⟩
    ·have c1:decide ((i:Int)<(s.length:Int))=false:=decide_eq_false (by omega)
     have:i=s.length:=by omega
     subst this
     rw [List.drop_length] at i3
     have i4:decV s=some acc:=i3
     obtain ⟨b1,b2⟩:=decBN_some i4
     simp only [b_rfdec_0,t_rfdec_0,r_rfdec,c1,b1,b2,awp_reg,awp_seq,awp_cond,awp_exit,awp_ret,arun_nil,arun_op,aq_some,isB_f,isB_g,thenQ_n,thenQ_x,inQ_x,retQ_r,astep,stV,aval,aret,ares,aress,AV.isTup,aBin,aInt,AV.isStr,aLen,St.ev,lk,St.put,lentO,renObj,posOf,↓reduceIte,Option.isSome_none,Bool.or_true,reduceEqDiff,beq_self_eq_true,true_and,List.length_nil,Option.map,mapO,ren,kp,List.range,List.range.loop,reduceCtorEq,eq_self,Bool.false_eq_true,and_self]
     simp only [renObj,finP,finI,closeIds,addNew,idsOf,List.flatMap_nil,List.flatMap_cons,List.append_nil,List.take_zero,nodupB,posOf,idsObj,List.range,List.range.loop,ren,lentO,mapO,Option.map,and_true]
   ·have d3:decide ((1:Int)<(s.length:Int))=false:=decide_eq_false (by omega)
    simp only [c_rfdec,d1,d2,d3,awp_skip,awp_reg,awp_seq,awp_cond,awp_block,awp_loop,arun_nil,arun_op,arun_gt,arun_gf,aq_some,isB_f,isB_g,thenQ_n,astep,stV,aval,slots,aBin,aInt,AV.isStr,aLen,St.ev,lk,St.put,St.pin,↓reduceIte,Option.isSome_none,Bool.or_true,reduceEqDiff,beq_self_eq_true,true_and,List.length_nil,reduceCtorEq,eq_self,Bool.false_eq_true]
    refine loop_at [] [0,4,5] [] (fun a:Nat × Nat=>⟨[(0,.str s),(4,.int .i64 (a.2:Int)),(5,.int .i64 (a.1:Int))],[]⟩) (fun a=>a.1≤s.length∧a.2<4611686018427387904∧decV s=rgo a.2 (s.drop a.1)) (fun a=>s.length - a.1) (0,0) rfl ⟨by simp,by simp,e⟩ ⟨rfl,rfl⟩ (fun a ha=>?_)
    obtain ⟨i,acc⟩:=a
    obtain ⟨i1,i2,i3⟩:=ha
    simp only at i1 i2 i3
    by_cases hil:i<s.length
    ·have c1:decide ((i:Int)<(s.length:Int))=true:=decide_eq_true (by omega)
     have hdr:s.drop i=s.getD i 0 :: s.drop (i+1):=by
      rw [List.drop_eq_getElem_cons hil,List.getD_eq_getElem?_getD,List.getElem?_eq_getElem hil]; rfl
     have hat:at8 s i=((s.getD i 0).toNat:Int):=rfl
     have hc:=(s.getD i 0).toNat_lt
     rw [hdr,rgo_cons] at i3
     generalize s.getD i 0=c at *
     by_cases h1:c.toNat<48
     ·have c2:decide ((c.toNat:Int)<48)=true:=decide_eq_true (by omega)
      rw [if_pos (by omega)] at i3
      simp only [b_rfdec_0,r_rfdec,c1,hat,c2,decB_none i3,decN_f i3,awp_skip,awp_reg,awp_seq,awp_cond,awp_block,awp_ret,arun_nil,arun_op,arun_gf,aq_some,isB_t,isB_u,thenQ_n,thenQ_r,inQ_r,retQ_r,astep,stV,aval,aret,ares,aress,AV.isTup,Int.toNat_natCast,aBin,aInt,aIdxS,AV.isStr,aLen,St.ev,lk,St.put,St.pin,lentO,renObj,posOf,↓reduceIte,Option.isSome_none,Bool.or_true,reduceEqDiff,beq_self_eq_true,true_and,List.length_nil,Option.map,mapO,ren,kp,List.range,List.range.loop,reduceCtorEq,eq_self,Bool.false_eq_true,and_self]
      simp only [renObj,finP,finI,closeIds,addNew,idsOf,List.flatMap_nil,List.flatMap_cons,List.append_nil,List.take_zero,nodupB,posOf,idsObj,List.range,List.range.loop,ren,lentO,mapO,Option.map,true_and,and_true]
      exact ⟨⟨by omega,by omega⟩,by simp⟩
     ·have c2:decide ((c.toNat:Int)<48)=false:=decide_eq_false (by omega)
      by_cases h2:57<c.toNat
      ·have c3:decide ((57:Int)<(c.toNat:Int))=true:=decide_eq_true (by omega)
       rw [if_pos (by omega)] at i3
       simp only [b_rfdec_0,r_rfdec,c1,hat,c2,c3,decB_none i3,decN_f i3,awp_skip,awp_reg,awp_seq,awp_cond,awp_block,awp_ret,arun_nil,arun_op,arun_gf,aq_some,isB_t,isB_f,thenQ_n,thenQ_r,inQ_r,retQ_r,astep,stV,aval,aret,ares,aress,AV.isTup,Int.toNat_natCast,aBin,aInt,aIdxS,AV.isStr,aLen,St.ev,lk,St.put,St.pin,lentO,renObj,posOf,↓reduceIte,Option.isSome_none,Bool.or_true,reduceEqDiff,beq_self_eq_true,true_and,List.length_nil,Option.map,mapO,ren,kp,List.range,List.range.loop,reduceCtorEq,eq_self,Bool.false_eq_true,and_self]
       simp only [renObj,finP,finI,closeIds,addNew,idsOf,List.flatMap_nil,List.flatMap_cons,List.append_nil,List.take_zero,nodupB,posOf,idsObj,List.range,List.range.loop,ren,lentO,mapO,Option.map,true_and,and_true]
       exact ⟨⟨by omega,by omega⟩,⟨by omega,by omega⟩,by simp⟩
      ·have c3:decide ((57:Int)<(c.toNat:Int))=false:=decide_eq_false (by omega)
       rw [if_neg (by omega)] at i3
       obtain ⟨d,hd⟩:∃ d:Nat,c.toNat=48+d:=⟨c.toNat - 48,by omega⟩
       have hd9:d<10:=by omega
       rw [hd,show 48+d - 48=d by omega] at i3
       have e1:((48+d:Nat):Int) - 48=(d:Int):=by omega
       have e2:4611686018427387903 - (d:Int)=((4611686018427387903 - d:Nat):Int):=by omega
       have e3:((4611686018427387903 - d:Nat):Int).tdiv 10=(((4611686018427387903 - d) / 10:Nat):Int):=tdiv_nat _ 10
       have hdl:List.length [0]=1:=rfl
       rw [hd] at c2 c3 hat
       by_cases h3:(4611686018427387903 - d) / 10<acc
       ·have c4:decide ((((4611686018427387903 - d) / 10:Nat):Int)<(acc:Int))=true:=decide_eq_true (by omega)
        rw [if_pos h3] at i3
        simp only [b_rfdec_0,r_rfdec,c1,hat,c2,c3,e1,e2,e3,c4,decB_none i3,decN_f i3,awp_skip,awp_reg,awp_seq,awp_cond,awp_block,awp_ret,arun_nil,arun_op,arun_gf,aq_some,isB_t,isB_f,isB_g,thenQ_n,thenQ_r,inQ_r,retQ_r,astep,stV,aval,aret,ares,aress,AV.isTup,Int.toNat_natCast,aBin,aInt,arI,aToInt,aIdxS,AV.isStr,aLen,St.ev,lk,St.put,St.pin,lentO,renObj,posOf,↓reduceIte,Option.isSome_none,Bool.or_true,reduceEqDiff,beq_self_eq_true,true_and,List.length_nil,Option.map,mapO,ren,kp,List.range,List.range.loop,reduceCtorEq,eq_self,Bool.false_eq_true,and_self]
        simp only [renObj,finP,finI,closeIds,addNew,idsOf,List.flatMap_nil,List.flatMap_cons,List.append_nil,List.take_zero,nodupB,posOf,idsObj,List.range,List.range.loop,ren,lentO,mapO,Option.map,true_and,and_true]
        exact ⟨⟨by omega,by omega⟩,⟨by omega,by omega⟩,⟨by omega,by omega⟩,by (first | omega | (simp only [inI]; omega)),by (first | omega | (simp only [inI]; omega)),by (first | omega | (simp only [inI]; omega)),⟨by omega,by (first | omega | (simp only [inI]; omega))⟩,by simp⟩
       ·have c4:decide ((((4611686018427387903 - d) / 10:Nat):Int)<(acc:Int))=false:=decide_eq_false (by omega)
        rw [if_neg h3] at i3
        simp only [b_rfdec_0,r_rfdec,c1,hat,c2,c3,e1,e2,e3,c4,awp_skip,awp_reg,awp_seq,awp_cond,awp_block,arun_nil,arun_op,arun_gf,aq_some,isB_t,isB_f,isB_g,thenQ_n,inQ_n,astep,stV,aval,Int.toNat_natCast,aBin,aInt,arI,aToInt,aIdxS,AV.isStr,aLen,St.ev,lk,St.put,St.pin,lentO,renObj,posOf,↓reduceIte,Option.isSome_none,Bool.or_true,reduceEqDiff,beq_self_eq_true,true_and,List.length_nil,Option.map,mapO,ren,kp,List.range,List.range.loop,reduceCtorEq,eq_self,Bool.false_eq_true]
        exact ⟨⟨by omega,by omega⟩,⟨by omega,by omega⟩,⟨by omega,by omega⟩,by (first | omega | (simp only [inI]; omega)),by (first | omega | (simp only [inI]; omega)),by (first | omega | (simp only [inI]; omega)),⟨by omega,by (first | omega | (simp only [inI]; omega))⟩,by (first | omega | (simp only [inI]; omega)),by (first | omega | (simp only [inI]; omega)),by (first | omega | (simp only [inI]; omega)),(i+1,10 * acc+d),⟨by simp only; omega,by simp only; omega,i3⟩,by simp only; omega,by simp⟩
    ·have c1:decide ((i:Int)<(s.length:Int))=false:=decide_eq_false (by omega)
     have:i=s.length:=by omega
     subst this
     rw [List.drop_length] at i3
     have i4:decV s=some acc:=i3
     obtain ⟨b1,b2⟩:=decBN_some i4
     simp only [b_rfdec_0,t_rfdec_0,r_rfdec,c1,b1,b2,awp_reg,awp_seq,awp_cond,awp_exit,awp_ret,arun_nil,arun_op,aq_some,isB_f,isB_g,thenQ_n,thenQ_x,inQ_x,retQ_r,astep,stV,aval,aret,ares,aress,AV.isTup,aBin,aInt,AV.isStr,aLen,St.ev,lk,St.put,lentO,renObj,posOf,↓reduceIte,Option.isSome_none,Bool.or_true,reduceEqDiff,beq_self_eq_true,true_and,List.length_nil,Option.map,mapO,ren,kp,List.range,List.range.loop,reduceCtorEq,eq_self,Bool.false_eq_true,and_self]
     simp only [renObj,finP,finI,closeIds,addNew,idsOf,List.flatMap_nil,List.flatMap_cons,List.append_nil,List.take_zero,nodupB,posOf,idsObj,List.range,List.range.loop,ren,lentO,mapO,Option.map,and_true]
 ·cases hs
open Go.Lib (index hasPrefix cut indexAny itoa)
def chr (c:Int):UInt8:=UInt8.ofNat c.toNat
theorem chr_60:chr 60=60:=rfl
theorem chr_62:chr 62=62:=rfl
theorem chr_32:chr 32=32:=rfl
def rcutS:Spec:=fun xs hp=>match xs,hp with
 | [.str s,.int .u8 c],[]=>some ⟨.tup [.str (cut s [chr c]).1,.str (cut s [chr c]).2.1],[],s.length≤1000000000000∧0≤c∧c<256⟩
 | _,_=>none
theorem rcut_ok:FnOk Tryz.prog 73 rcutS:=by
 refine fn_slim2 Tryz.func73 s_rcut (Φ:=phiL []) phi_nil ?_
 intro xs hp r hs hp'
 unfold rcutS at hs
 split at hs
 ·injection hs with hs; subst hs
  rename_i s c
  obtain ⟨p1,p2,p3⟩:=hp'
  refine ⟨len_le (by kernel_rfl),?_⟩
  have hcc:((chr c).toNat:Int)=c:=by
   unfold chr; rw [UInt8.toNat_ofNat']; omega
  simp only [c_rcut,go_sem,reduceDiv,reduceMod,reduceAdd]
  refine loop2P [] [0,1,6] [] (fun i:Nat=>⟨[(0,.str s),(1,.int .u8 c),(6,.int .i64 (i:Int))],[]⟩) (fun i=>i≤s.length∧chr c ∉ s.take i) (fun i=>s.length - i) 0 rfl ⟨by omega,by simp⟩ ⟨rfl,rfl⟩ (fun i hi R hR=>?_)
  obtain ⟨i1,i2⟩:=hi
  by_cases hil:i<s.length
  ·have c1:decide ((i:Int)<(s.length:Int))=true:=decide_eq_true (by omega)
   have hl:=at8_lit hil
   by_cases he:s[i]=chr c
   ·have c2:decide (at8 s i=c)=true:=decide_eq_true (by rw [hl,he]; exact hcc)
    have hsp:s=s.take i ++ chr c :: s.drop (i+1):=by
     rw [← he,← List.drop_eq_getElem_cons hil,List.take_append_drop]
    have hcut:=cut_1 (b:=s.drop (i+1)) i2
    rw [← hsp] at hcut
    have e1:((i:Int)+1).toNat=i+1:=by omega
    simp only [b_rcut_0,r_rcut,c1,c2,hcut,e1,Int.toNat_natCast,List.take_length,go_sem,reduceDiv,reduceMod,↓reduceIte,reduceCtorEq,Int.reduceLE,Int.reduceToNat]
    repeat' apply And.intro
    all_goals first | omega | (first | omega | (simp only [lenOk,bytesOk,inI,IntKind.bits,List.length_append,Bs_len,List.length_cons,List.length_nil,List.length_map,List.length_take,List.length_drop,List.length_replicate]; omega)) | rfl | skip
   ·have c2:decide (at8 s i=c)=false:=decide_eq_false (by
     rw [hl]; intro h; apply he; exact UInt8.toNat_inj.1 (by omega))
    simp only [b_rcut_0,r_rcut,c1,c2,Int.toNat_natCast,go_sem,reduceDiv,reduceMod,↓reduceIte]
    refine ⟨⟨by omega,by omega⟩,⟨by omega,by omega⟩,hR _ (i+1) ⟨by omega,fun hm=>?_⟩ (by omega) rfl⟩
    rcases (take_mem hil).1 hm with hm | hm
    ·exact i2 hm
    ·exact he hm.symm
  ·have c1:decide ((i:Int)<(s.length:Int))=false:=decide_eq_false (by omega)
   have e:s.take i=s:=List.take_of_length_le (by omega)
   rw [e] at i2
   rw [cut_1n i2]
   simp only [b_rcut_0,t_rcut_0,r_rcut,c1,go_sem,reduceDiv,reduceMod,↓reduceIte]
 ·cases hs
def frontL (s w:List UInt8):List UInt8:=if hasPrefix s w=true then s.drop w.length else []
def rfrontS:Spec:=fun xs hp=>match xs,hp with
 | [.str s,.str w],[]=>some ⟨.str (frontL s w),[],s.length≤1000000000000∧w.length≤1000000000000⟩
 | _,_=>none
theorem rfront_ok:FnOk Tryz.prog 71 rfrontS:=by
 refine fn_slim2 Tryz.func71 s_rfront (Φ:=phiL []) phi_nil ?_
 intro xs hp r hs hp'
 unfold rfrontS at hs
 split at hs
 ·injection hs with hs; subst hs
  rename_i s w
  obtain ⟨p1,p2⟩:=hp'
  refine ⟨len_le (by kernel_rfl),?_⟩
  have key:hasPrefix s w=(decide ((w.length:Int)≤(s.length:Int)) && decide (s.take w.length=w)):=by
   rw [Bool.eq_iff_iff]
   show w.isPrefixOf s=true↔_
   rw [List.isPrefixOf_iff_prefix,Bool.and_eq_true,decide_eq_true_eq,decide_eq_true_eq]
   constructor
   ·intro h
    have:=h.length_le
    exact ⟨by omega,(List.prefix_iff_eq_take.1 h).symm⟩
   ·intro h; exact List.prefix_iff_eq_take.2 h.2.symm
  unfold frontL
  rw [key]
  cases c1:decide ((w.length:Int)≤(s.length:Int)) with
  | false =>
   simp only [c_rfront,r_rfront,c1,Bool.false_and,Bool.false_eq_true,go_sem,reduceDiv,reduceMod,↓reduceIte,reduceAdd]
  | true =>
   have hle:=of_decide_eq_true c1
   cases c2:decide (s.take w.length=w) with
   | false =>
    simp only [c_rfront,r_rfront,c1,c2,Bool.and_false,Bool.false_eq_true,Int.toNat_natCast,go_sem,reduceDiv,reduceMod,↓reduceIte,reduceAdd,Int.reduceLE,Int.reduceToNat]
    omega
   | true =>
    simp only [c_rfront,r_rfront,c1,c2,Bool.and_true,Int.toNat_natCast,List.take_length,go_sem,reduceDiv,reduceMod,↓reduceIte,reduceAdd,Int.reduceLE,Int.reduceToNat]
    repeat' apply And.intro
    all_goals first | omega | rfl | (first | omega | (simp only [lenOk,bytesOk,inI,IntKind.bits,List.length_append,Bs_len,List.length_cons,List.length_nil,List.length_map,List.length_take,List.length_drop,List.length_replicate]; omega)) | skip
 ·cases hs
noncomputable def guessW (s:List UInt8):WhoL :=
  ⟨(cut s [60]).1.take ((cut s [60]).1.length - 1), (cut (cut s [60]).2.1 [62]).1,
   (decN (cut (frontL (cut (cut s [60]).2.1 [62]).2.1 [32]) [32]).1:Int),(cut (frontL (cut (cut s [60]).2.1 [62]).2.1 [32]) [32]).2.1⟩
noncomputable def rguessS:Spec:=fun xs hp=>match xs,hp with
 | [.str s],[]=>some ⟨.agg (whoP (guessW s)),[],s.length≤1000000⟩
 | _,_=>none
theorem frontL_len (s w:List UInt8):(frontL s w).length≤s.length:=by
 unfold frontL; split
 ·rw [List.length_drop]; omega
 ·simp
set_option maxHeartbeats 1000000 in
theorem rguess_ok:FnOk Tryz.prog 72 rguessS:=by
 refine fn_slim2 Tryz.func72 s_rguess (Φ:=phiL [(73,[],rcutS),(71,[],rfrontS),(86,[],rfdecS)]) (phi_cons rcut_ok (by kernel_rfl) (phi_cons rfront_ok (by kernel_rfl) (phi_cons rfdec_ok (by kernel_rfl) phi_nil))) ?_
 intro xs hp r hs hp'
 unfold rguessS at hs
 split at hs
 ·injection hs with hs; subst hs
  rename_i s
  have p1:s.length≤1000000:=hp'
  refine ⟨len_le (by kernel_rfl),?_⟩
  have hA1:=cutl1 s [60]
  have hA2:=cutl2 s [60]
  have hB1:=cutl1 (cut s [60]).2.1 [62]
  have hB2:=cutl2 (cut s [60]).2.1 [62]
  have hF:=frontL_len (cut (cut s [60]).2.1 [62]).2.1 [32]
  have hC1:=cutl1 (frontL (cut (cut s [60]).2.1 [62]).2.1 [32]) [32]
  have hC2:=cutl2 (frontL (cut (cut s [60]).2.1 [62]).2.1 [32]) [32]
  unfold guessW whoP
  simp only
  simp only [c_rguess,rcutS,chr_60,chr_62,go_sem,reduceDiv,reduceMod,↓reduceIte,reduceEqDiff,Nat.reduceLT,reduceAdd,Int.reduceLT,Int.reduceLE,Int.reduceToNat]
  generalize cut s [60]=A at *
  generalize cut A.2.1 [62]=B at *
  cases h1:decide (0<(A.1.length:Int)) with
  | true =>
   have h0:=of_decide_eq_true h1
   have e:((A.1.length:Int) - 1).toNat=A.1.length - 1:=by omega
   simp only [r_rguess,rcutS,rfrontS,rfdecS,chr_32,e,go_sem,reduceDiv,reduceMod,↓reduceIte,reduceEqDiff,reduceSub,Nat.reduceLT,reduceAdd,reduceLeDiff,reduceCtorEq,Int.reduceLT,Int.reduceLE]
   repeat' apply And.intro
   all_goals first | omega | rfl | (first | omega | (simp only [lenOk,bytesOk,inI,IntKind.bits,List.length_append,Bs_len,List.length_cons,List.length_nil,List.length_map,List.length_take,List.length_drop,List.length_replicate]; omega)) | skip
  | false =>
   have h0:=of_decide_eq_false h1
   have e:A.1=[]:=List.eq_nil_of_length_eq_zero (by omega)
   simp only [r_rguess,rcutS,rfrontS,rfdecS,chr_32,e,List.take_nil,go_sem,reduceDiv,reduceMod,↓reduceIte,reduceEqDiff,reduceSub,Nat.reduceLT,reduceAdd,reduceLeDiff,reduceCtorEq,Int.reduceLT,Int.reduceLE]
   repeat' apply And.intro
   all_goals first | omega | rfl | (first | omega | (simp only [lenOk,bytesOk,inI,IntKind.bits,List.length_append,Bs_len,List.length_cons,List.length_nil,List.length_map,List.length_take,List.length_drop,List.length_replicate]; omega)) | skip
 ·cases hs
open Go.Lib (index hasPrefix cut indexAny itoa decDigits)
theorem hasL_no {p s:List UInt8} (h:hasL p s=false) {c:UInt8} (hc:c∈p):c ∉ s:=fun hm=>by
 have:hasL p s=true:=(hasL_iff p s).2 ⟨c,hm,hc⟩
 rw [h] at this; cases this
theorem rightW_parts {w:WhoL} (h:rightW w=true):hasL [60,62,10] w.name=false∧hasL [60,62,10] w.mail=false∧zonB w.zone=true:=by
 unfold rightW at h
 rw [hasL_app] at h
 cases h1:hasL [60,62,10] w.name <;> cases h2:hasL [60,62,10] w.mail <;> simp [h1,h2] at h
 exact ⟨rfl,rfl,h.2⟩
theorem textW_shape (w:WhoL):textW w=w.name ++ 32 :: 60 :: (w.mail ++ 62 :: 32 :: (itoa w.time ++ 32 :: w.zone)):=by simp [textW]
theorem person_cuts {w:WhoL} (h:rightW w=true):cut (textW w) [32,60]=(w.name,w.mail ++ 62 :: 32 :: (itoa w.time ++ 32 :: w.zone),true) ∧
  cut (w.mail ++ 62 :: 32 :: (itoa w.time ++ 32 :: w.zone)) [62,32]=(w.mail,itoa w.time ++ 32 :: w.zone,true)∧cut (itoa w.time ++ 32 :: w.zone) [32]=(itoa w.time,w.zone,true):=by
 obtain ⟨h1,h2,h3⟩:=rightW_parts h
 obtain ⟨h4,h5⟩:=rightW_time h
 refine ⟨?_,?_,?_⟩
 ·rw [textW_shape]; exact cut_2y (hasL_no h1 (by decide)) (by decide)
 ·exact cut_2x (hasL_no h2 (by decide))
 ·refine cut_1 ?_
  rw [itoa_dec h4]; exact dec_no _ _ (by decide)
theorem person_text {w:WhoL} (h:rightW w=true):personB (textW w)=true∧personW (textW w)=w:=by
 obtain ⟨h4,h5⟩:=rightW_time h
 obtain ⟨e1,e2,e3⟩:=person_cuts h
 obtain ⟨e4,e5⟩:=decB_itoa h4 h5
 have hw:personW (textW w)=w:=by
  unfold personW
  rw [e1]; simp only; rw [e2]; simp only; rw [e3]; simp only
  rw [show timeN (itoa w.time)=(decN (itoa w.time):Int) from if_pos e4,e5]
 refine ⟨?_,hw⟩
 unfold personB
 rw [hw,h,e1]; simp only; rw [e2]; simp only; rw [e3]; simp only; rw [e4]; rfl
theorem text_person {s:List UInt8} (h:personB s=true):rightW (personW s)=true∧textW (personW s)=s:=by
 unfold personB at h
 simp only [Bool.and_eq_true] at h
 obtain ⟨⟨⟨⟨h1,h2⟩,h3⟩,h4⟩,h5⟩:=h
 refine ⟨h5,?_⟩
 rw [textW_shape]
 have e1:=cut_t h1
 have e2:=cut_t h2
 have e3:=cut_t h3
 have e4:=itoa_decN h4
 unfold personW
 simp only
 rw [show timeN (cut (cut (cut s [32,60]).2.1 [62,32]).2.1 [32]).1=(decN (cut (cut (cut s [32,60]).2.1 [62,32]).2.1 [32]).1:Int) from if_pos h4,e4]
 simp only [List.cons_append,List.nil_append] at e1 e2 e3
 rw [← e3,← e2,← e1]
theorem guess_text {w:WhoL} (h:rightW w=true):guessW (textW w)=w:=by
 obtain ⟨h1,h2,h3⟩:=rightW_parts h
 obtain ⟨h4,h5⟩:=rightW_time h
 obtain ⟨_,_,e3⟩:=person_cuts h
 obtain ⟨e4,e5⟩:=decB_itoa h4 h5
 have e1:cut (textW w) [60]=(w.name ++ [32],w.mail ++ 62 :: 32 :: (itoa w.time ++ 32 :: w.zone),true):=by
  rw [textW_shape,show w.name ++ 32 :: 60 :: (w.mail ++ 62 :: 32 :: (itoa w.time ++ 32 :: w.zone))=(w.name ++ [32]) ++ 60 :: (w.mail ++ 62 :: 32 :: (itoa w.time ++ 32 :: w.zone)) by simp]
  refine cut_1 ?_
  rw [List.mem_append,List.mem_singleton]
  rintro (hm | hm)
  ·exact hasL_no h1 (by decide) hm
  ·exact absurd hm (by decide)
 have e2:cut (w.mail ++ 62 :: 32 :: (itoa w.time ++ 32 :: w.zone)) [62]=(w.mail,32 :: (itoa w.time ++ 32 :: w.zone),true):=cut_1 (hasL_no h2 (by decide))
 have e6:frontL (32 :: (itoa w.time ++ 32 :: w.zone)) [32]=itoa w.time ++ 32 :: w.zone:=by
  unfold frontL
  rw [if_pos (show hasPrefix (32 :: (itoa w.time ++ 32 :: w.zone)) [32]=true from show List.isPrefixOf [32] (32 :: (itoa w.time ++ 32 :: w.zone))=true by simp [List.isPrefixOf])]
  rfl
 unfold guessW
 rw [e1]; simp only; rw [e2]; simp only; rw [e6,e3]; simp only
 rw [e5,List.length_append,List.length_singleton,show w.name.length+1 - 1=w.name.length by omega,List.take_left]
theorem pre_app (w r:List UInt8):hasPrefix (w ++ r) w=true:=by
 show w.isPrefixOf (w ++ r)=true
 rw [List.isPrefixOf_iff_prefix]; exact List.prefix_append w r
theorem pre_iff {s w:List UInt8}:hasPrefix s w=true↔∃ r,s=w ++ r:=by
 show w.isPrefixOf s=true↔_
 rw [List.isPrefixOf_iff_prefix]
 constructor
 ·rintro ⟨r,h⟩; exact ⟨r,h.symm⟩
 ·rintro ⟨r,h⟩; exact ⟨r,h.symm⟩
theorem lineG_app {w x r:List UInt8} (h1:(10:UInt8) ∉ w) (h2:(10:UInt8) ∉ x):lineG (w ++ (x ++ 10 :: r)) w=some (x,r):=by
 have e:cut (w ++ (x ++ 10 :: r)) [10]=(w ++ x,r,true):=by
  rw [← List.append_assoc]
  exact cut_1 (by rw [List.mem_append]; rintro (h | h); exact h1 h; exact h2 h)
 unfold lineG
 rw [e]
 rw [if_pos ⟨rfl,pre_app w x⟩]
 simp only [List.drop_left]
theorem lineG_inv {s w x r:List UInt8} (h:lineG s w=some (x,r)):s=w ++ (x ++ 10 :: r)∧(10:UInt8) ∉ x:=by
 unfold lineG at h
 split at h
 ·rename_i hc
  injection h with h; injection h with h1 h2; subst h1 h2
  obtain ⟨t,ht⟩:=pre_iff.1 hc.2
  have hm:=cut_1mem (s:=s) (c:=10)
  have hs:=cut_t hc.1
  rw [ht] at hm hs ⊢
  rw [List.drop_left]
  exact ⟨by simpa using hs,fun h=>hm (List.mem_append_right _ h)⟩
 ·cases h
theorem mustG_app {w x r:List UInt8} (b:Bool) (h1:(10:UInt8) ∉ w) (h2:(10:UInt8) ∉ x):mustG (w ++ (x ++ 10 :: r)) b w=(x,r,b):=by
 unfold mustG; rw [lineG_app h1 h2]
theorem mustG_inv {s w:List UInt8} {b:Bool} (h:(mustG s b w).2.2=false):b=false∧s=w ++ ((mustG s b w).1 ++ 10 :: (mustG s b w).2.1)∧(10:UInt8) ∉ (mustG s b w).1:=by
 unfold mustG at h ⊢
 cases hl:lineG s w with
 | none=>rw [hl] at h; cases h
 | some p =>
  obtain ⟨x,r⟩:=p
  rw [hl] at h
  exact ⟨h,lineG_inv hl⟩
theorem dv_no10:¬ 0≤dv 10:=by unfold dv; decide
theorem hexL_no10 (l:List UInt8):(10:UInt8) ∉ hexL l:=fun h=>dv_no10 (hexL_ok l 10 h)
theorem textW_no10 {w:WhoL} (h:rightW w=true):(10:UInt8) ∉ textW w:=by
 obtain ⟨h1,h2,h3⟩:=rightW_parts h
 obtain ⟨h4,h5⟩:=rightW_time h
 have hz:(10:UInt8) ∉ w.zone:=by
  intro hm
  unfold zonB at h3
  simp only [Bool.and_eq_true,decide_eq_true_eq,Bool.or_eq_true,List.all_eq_true] at h3
  obtain ⟨⟨g1,g2⟩,g3⟩:=h3
  cases hw:w.zone with
  | nil=>rw [hw] at hm; cases hm
  | cons z zs =>
   rw [hw] at hm g2 g3
   rcases List.mem_cons.1 hm with rfl | hm
   ·simp at g2
   ·have:=g3 10 (by simpa using hm)
    exact absurd this (by decide)
 rw [textW_shape,itoa_dec h4]
 simp only [List.mem_append,List.mem_cons,not_or]
 exact ⟨hasL_no h1 (by decide),by decide,by decide,hasL_no h2 (by decide),by decide,by decide,dec_no _ _ (by decide),by decide,hz⟩
theorem parL_shape (p:List UInt8) (r:List UInt8):parL p ++ r=parW ++ (hexL p ++ 10 :: r):=by simp [parL,parW]
theorem parentsG_app:∀ (ps:List (List UInt8)) (f:Nat) (r:List UInt8) (acc:List (List UInt8)),ps.length<f→(∀ p∈ps,p.length=20)→hasPrefix r parW=false →
  parentsG f (ps.flatMap parL ++ r) false acc=(r,false,acc ++ ps):=by
 intro ps
 induction ps with
 | nil =>
  intro f r acc hf _ hr
  obtain ⟨f,rfl⟩:∃ k,f=k+1:=⟨f - 1,by simp only [List.length_nil] at hf; omega⟩
  rw [List.flatMap_nil,List.nil_append,parentsG,if_neg (by rw [hr]; simp),List.append_nil]
 | cons p ps ih =>
  intro f r acc hf hp hr
  obtain ⟨f,rfl⟩:∃ k,f=k+1:=⟨f - 1,by simp only [List.length_cons] at hf; omega⟩
  simp only [List.length_cons] at hf
  have e:(p :: ps).flatMap parL ++ r=parW ++ (hexL p ++ 10 :: (ps.flatMap parL ++ r)):=by
   rw [List.flatMap_cons,List.append_assoc,parL_shape]
  have hm:mustG (parW ++ (hexL p ++ 10 :: (ps.flatMap parL ++ r))) false parW=(hexL p,ps.flatMap parL ++ r,false):=mustG_app false (by decide) (hexL_no10 p)
  have hl:=hp p (List.mem_cons_self ..)
  rw [e,parentsG,if_pos ⟨rfl,pre_app _ _⟩,hm]
  simp only
  rw [hex_good p hl,pOut_hex p hl]
  rw [show (false || !true)=false from rfl,ih f r _ (by omega) (fun q hq=>hp q (List.mem_cons_of_mem _ hq)) hr]
  simp
theorem parentsG_inv:∀ (f:Nat) (s:List UInt8) (b:Bool) (acc:List (List UInt8)),(parentsG f s b acc).2.1=false →
  b=false∧∃ ps,(parentsG f s b acc).2.2=acc ++ ps∧s=ps.flatMap parL ++ (parentsG f s b acc).1:=by
 intro f
 induction f with
 | zero=>intro s b acc h; exact ⟨h,[],by simp [parentsG],by simp [parentsG]⟩
 | succ f ih =>
  intro s b acc h
  by_cases hc:b=false∧hasPrefix s parW=true
  ·rw [parentsG,if_pos hc] at h ⊢
   obtain ⟨h1,ps,h2,h3⟩:=ih _ _ _ h
   obtain ⟨h4,h5⟩:(mustG s b parW).2.2=false∧goodQ (mustG s b parW).1=true:=by
    cases g1:(mustG s b parW).2.2 <;> cases g2:goodQ (mustG s b parW).1 <;> simp [g1,g2] at h1 ⊢
   obtain ⟨h6,h7,h8⟩:=mustG_inv h4
   refine ⟨h6,pOut (mustG s b parW).1 :: ps,by rw [h2]; simp,?_⟩
   rw [List.flatMap_cons,List.append_assoc,← h3,parL_shape,hex_pOut _ h5]
   exact h7
  ·rw [parentsG,if_neg hc] at h ⊢
   exact ⟨h,[],by simp,by simp⟩
def sb (v:List UInt8):List UInt8:=subst1 10 [10,32] v
theorem exL_shape (x:ExL) (r:List UInt8):exL x ++ r=x.1 ++ 32 :: (sb x.2 ++ 10 :: r):=by simp [exL,sb]
theorem split10 (v:List UInt8):(10:UInt8) ∉ v∨∃ a b,v=a ++ 10 :: b∧(10:UInt8) ∉ a:=by
 by_cases h:(10:UInt8)∈v
 ·exact .inr (mem_split h)
 ·exact .inl h
theorem sb_none {v:List UInt8} (h:(10:UInt8) ∉ v):sb v=v:=subst1_none h
theorem sb_app {a b:List UInt8} (h:(10:UInt8) ∉ a):sb (a ++ 10 :: b)=a ++ 10 :: 32 :: sb b:=by
 unfold sb
 rw [subst1_app,subst1_none h,subst1_hit]; rfl
theorem lineG_none {r w:List UInt8} (h:hasPrefix r w=false):lineG r w=none:=by
 cases hl:lineG r w with
 | none=>rfl
 | some p =>
  obtain ⟨x,t⟩:=p
  rw [(lineG_inv hl).1,pre_app] at h; cases h
theorem contG_none {f:Nat} {r v:List UInt8} (h:hasPrefix r [32]=false):contG f r v=(r,v):=by
 cases f with
 | zero=>rfl
 | succ f=>rw [contG,lineG_none h]
theorem contG_app:∀ (n:Nat) (v:List UInt8) (f:Nat) (r acc:List UInt8),v.length≤n→v.length<f→hasPrefix r [32]=false→contG f (32 :: (sb v ++ 10 :: r)) acc=(r,acc ++ 10 :: v):=by
 intro n
 induction n with
 | zero =>
  intro v f r acc hn hf hr
  obtain rfl:v=[]:=List.eq_nil_of_length_eq_zero (by omega)
  obtain ⟨f,rfl⟩:∃ k,f=k+1:=⟨f - 1,by omega⟩
  have e:lineG ([32] ++ ([] ++ 10 :: r)) [32]=some ([],r):=lineG_app (by decide) (by decide)
  rw [contG,show (32 :: (sb [] ++ 10 :: r))=[32] ++ ([] ++ 10 :: r) from rfl,e]
  simp only
  rw [contG_none hr]; rfl
 | succ n ih =>
  intro v f r acc hn hf hr
  obtain ⟨f,rfl⟩:∃ k,f=k+1:=⟨f - 1,by omega⟩
  rcases split10 v with h | ⟨a,b,rfl,ha⟩
  ·have e:lineG ([32] ++ (v ++ 10 :: r)) [32]=some (v,r):=lineG_app (by decide) h
   rw [contG,sb_none h,show (32 :: (v ++ 10 :: r))=[32] ++ (v ++ 10 :: r) from rfl,e]
   simp only
   rw [contG_none hr]; rfl
  ·simp only [List.length_append,List.length_cons] at hn hf
   have e:lineG ([32] ++ (a ++ 10 :: (32 :: (sb b ++ 10 :: r)))) [32]=some (a,32 :: (sb b ++ 10 :: r)):=lineG_app (by decide) ha
   rw [contG,sb_app ha,show (32 :: (a ++ 10 :: 32 :: sb b ++ 10 :: r))=[32] ++ (a ++ 10 :: (32 :: (sb b ++ 10 :: r))) by simp,e]
   simp only
   rw [ih b f r _ (by omega) (by omega) hr]
   simp
theorem extra1_app {x:ExL} {r:List UInt8} (h:extraB x.1=true) (hr:hasPrefix r [32]=false):extra1 (exL x ++ r)=(r,x.2,false,x):=by
 obtain ⟨k,v⟩:=x
 have hk:hasL [32,10] k=false:=by
  unfold extraB at h
  cases g:hasL [32,10] k
  ·rfl
  ·rw [g] at h; simp at h
 have k32:(32:UInt8) ∉ k:=hasL_no hk (by decide)
 have k10:(10:UInt8) ∉ k:=hasL_no hk (by decide)
 rw [exL_shape]
 simp only
 have no10:∀ y:List UInt8,(10:UInt8) ∉ y→(10:UInt8) ∉ k ++ 32 :: y:=by
  intro y hy
  simp only [List.mem_append,List.mem_cons,not_or]
  exact ⟨k10,by decide,hy⟩
 rcases split10 v with h1 | ⟨a,b,rfl,ha⟩
 ·have e:mustG ([] ++ ((k ++ 32 :: v) ++ 10 :: r)) false []=(k ++ 32 :: v,r,false):=mustG_app false (by decide) (no10 v h1)
  unfold extra1
  rw [sb_none h1,show k ++ 32 :: (v ++ 10 :: r)=[] ++ ((k ++ 32 :: v) ++ 10 :: r) by simp,e]
  simp only
  rw [cut_1 k32]
  simp only
  rw [contG_none hr,h]; rfl
 ·have e:mustG ([] ++ ((k ++ 32 :: a) ++ 10 :: (32 :: (sb b ++ 10 :: r)))) false []=(k ++ 32 :: a,32 :: (sb b ++ 10 :: r),false):=mustG_app false (by decide) (no10 a ha)
  unfold extra1
  rw [sb_app ha,show k ++ 32 :: (a ++ 10 :: 32 :: sb b ++ 10 :: r)=[] ++ ((k ++ 32 :: a) ++ 10 :: (32 :: (sb b ++ 10 :: r))) by simp,e]
  simp only
  rw [cut_1 k32]
  simp only
  have hsl:b.length≤(sb b).length:=by
   unfold sb subst1
   clear e h hk k32 k10 no10 hr ha
   induction b with
   | nil=>simp
   | cons z b ih =>
    rw [List.flatMap_cons,List.length_append,List.length_cons]
    have:1≤(if z=10 then [10,32] else [z]:List UInt8).length:=by split <;> simp
    omega
  rw [contG_app b.length b _ r a (Nat.le_refl _) (by simp only [List.length_append,List.length_cons]; omega) hr,h]; rfl
theorem extraB_head {k r:List UInt8} (h:extraB k=true):hasPrefix (k ++ 32 :: r) [10]=false∧hasPrefix (k ++ 32 :: r) [32]=false:=by
 have hk:hasL [32,10] k=false:=by
  unfold extraB at h
  cases g:hasL [32,10] k
  ·rfl
  ·rw [g] at h; simp at h
 cases k with
 | nil=>exact absurd h (by decide)
 | cons z k =>
  have k32:(32:UInt8) ∉ z :: k:=hasL_no hk (by decide)
  have k10:(10:UInt8) ∉ z :: k:=hasL_no hk (by decide)
  constructor
  ·rw [Bool.eq_false_iff]; intro hp
   obtain ⟨t,ht⟩:=pre_iff.1 hp
   injection ht with ht _; subst ht
   exact k10 (List.mem_cons_self ..)
  ·rw [Bool.eq_false_iff]; intro hp
   obtain ⟨t,ht⟩:=pre_iff.1 hp
   injection ht with ht _; subst ht
   exact k32 (List.mem_cons_self ..)
theorem extrasG_app:∀ (es:List ExL) (f:Nat) (m:List UInt8) (acc:List ExL),es.length<f→es.any badE=false →
  extrasG f (es.flatMap exL ++ 10 :: m) false acc=(10 :: m,false,acc ++ es):=by
 intro es
 induction es with
 | nil =>
  intro f m acc hf _
  obtain ⟨f,rfl⟩:∃ k,f=k+1:=⟨f - 1,by simp only [List.length_nil] at hf; omega⟩
  rw [List.flatMap_nil,List.nil_append,extrasG,if_neg (by rw [show (10 :: m)=[10] ++ m from rfl,pre_app]; simp),List.append_nil]
 | cons x es ih =>
  intro f m acc hf hx
  obtain ⟨f,rfl⟩:∃ k,f=k+1:=⟨f - 1,by simp only [List.length_cons] at hf; omega⟩
  simp only [List.length_cons] at hf
  rw [List.any_cons] at hx
  have hb:extraB x.1=true:=by
   cases g:extraB x.1
   ·unfold badE at hx; rw [g] at hx; simp at hx
   ·rfl
  have hx2:es.any badE=false:=by
   cases g:es.any badE
   ·rfl
   ·rw [g] at hx; simp at hx
  have hr:hasPrefix (es.flatMap exL ++ 10 :: m) [32]=false:=by
   cases es with
   | nil=>rw [Bool.eq_false_iff]; intro hp; obtain ⟨t,ht⟩:=pre_iff.1 hp; injection ht with ht _; exact absurd ht (by decide)
   | cons y es =>
    rw [List.any_cons] at hx2
    have hy:extraB y.1=true:=by
     cases g:extraB y.1
     ·unfold badE at hx2; rw [g] at hx2; simp at hx2
     ·rfl
    rw [List.flatMap_cons,List.append_assoc,exL_shape]
    exact (extraB_head hy).2
  have h10:hasPrefix (exL x ++ (es.flatMap exL ++ 10 :: m)) [10]=false:=by rw [exL_shape]; exact (extraB_head hb).1
  rw [List.flatMap_cons,List.append_assoc,extrasG,if_pos ⟨rfl,h10⟩,extra1_app hb hr]
  simp only
  rw [ih f m _ (by omega) hx2]
  simp
theorem contG_inv:∀ (f:Nat) (r v:List UInt8),∃ y,(contG f r v).2=v ++ y∧10 :: r=sb y ++ 10 :: (contG f r v).1:=by
 intro f
 induction f with
 | zero=>intro r v; exact ⟨[],by simp [contG],rfl⟩
 | succ f ih =>
  intro r v
  rw [contG]
  cases hl:lineG r [32] with
  | none=>exact ⟨[],by simp,rfl⟩
  | some p =>
   obtain ⟨m,r1⟩:=p
   obtain ⟨h1,h2⟩:=lineG_inv hl
   obtain ⟨y,h3,h4⟩:=ih r1 (v ++ ([10] ++ m))
   refine ⟨10 :: (m ++ y),by simp only; rw [h3]; simp,?_⟩
   simp only
   have e:sb (10 :: (m ++ y))=10 :: 32 :: (m ++ sb y):=by
    unfold sb; rw [subst1_hit,subst1_app,subst1_none h2]; rfl
   rw [e,h1]
   simp only [List.cons_append,List.append_assoc,List.nil_append] at h4 ⊢
   rw [← h4]
theorem extra1_inv {s:List UInt8} (h:(extra1 s).2.2.1=false):extraB (extra1 s).2.2.2.1=true∧s=exL (extra1 s).2.2.2 ++ (extra1 s).1:=by
 unfold extra1 at h ⊢
 simp only at h ⊢
 obtain ⟨⟨h1,h2⟩,h3⟩:((mustG s false []).2.2=false∧(cut (mustG s false []).1 [32]).2.2=true)∧extraB (cut (mustG s false []).1 [32]).1=true:=by
  cases g1:(mustG s false []).2.2 <;> cases g2:(cut (mustG s false []).1 [32]).2.2 <;> cases g3:extraB (cut (mustG s false []).1 [32]).1 <;> simp [g1,g2,g3] at h ⊢
 obtain ⟨_,h5,h6⟩:=mustG_inv h1
 have h7:=cut_t h2
 obtain ⟨y,h8,h9⟩:=contG_inv ((mustG s false []).2.1.length+1) (mustG s false []).2.1 (cut (mustG s false []).1 [32]).2.1
 refine ⟨h3,?_⟩
 rw [exL_shape]
 simp only
 have hn:(10:UInt8) ∉ (cut (mustG s false []).1 [32]).2.1:=by
  intro hm; apply h6; rw [h7]
  exact List.mem_append_right _ (List.mem_append_right _ hm)
 rw [h8,show sb ((cut (mustG s false []).1 [32]).2.1 ++ y)=(cut (mustG s false []).1 [32]).2.1 ++ sb y by unfold sb; rw [subst1_app,subst1_none hn],List.append_assoc,← h9]
 conv=>lhs; rw [h5]
 rw [List.nil_append]
 conv=>lhs; rw [h7]
 simp
theorem extrasG_inv:∀ (f:Nat) (s:List UInt8) (b:Bool) (acc:List ExL),(extrasG f s b acc).2.1=false →
  b=false∧∃ es,(extrasG f s b acc).2.2=acc ++ es∧es.any badE=false∧s=es.flatMap exL ++ (extrasG f s b acc).1:=by
 intro f
 induction f with
 | zero=>intro s b acc h; exact ⟨h,[],by simp [extrasG],rfl,by simp [extrasG]⟩
 | succ f ih =>
  intro s b acc h
  by_cases hc:b=false∧hasPrefix s [10]=false
  ·rw [extrasG,if_pos hc] at h ⊢
   obtain ⟨h1,es,h2,h3,h4⟩:=ih _ _ _ h
   obtain ⟨h5,h6⟩:=extra1_inv h1
   refine ⟨hc.1,(extra1 s).2.2.2 :: es,by rw [h2]; simp,by rw [List.any_cons,h3]; unfold badE; rw [h5]; rfl,?_⟩
   rw [List.flatMap_cons,List.append_assoc,← h4,← h6]
  ·rw [extrasG,if_neg hc] at h ⊢
   exact ⟨h,[],by simp,rfl,by simp⟩
theorem bodyC_shape (c:ComL):bodyC c=treW ++ (hexL c.tree ++ 10 :: (c.parents.flatMap parL ++ (autW ++ (textW c.author ++ 10 :: (comW ++ (textW c.committer ++ 10 :: (c.extras.flatMap exL ++ 10 :: c.message))))))):=by
 simp [bodyC,printC,headC,midC,treW,autW,comW]
theorem rightC_parts {c:ComL} (h:rightC c=true):rightW c.author=true∧rightW c.committer=true∧c.extras.any badE=false:=by
 unfold rightC at h
 cases h1:rightW c.author <;> cases h2:rightW c.committer <;> cases h3:c.extras.any badE <;> simp [h1,h2,h3] at h ⊢
theorem personV_text {w:WhoL} (h:rightW w=true):personB (textW w)=true∧personV (textW w)=w:=by
 obtain ⟨h1,h2⟩:=person_text h
 exact ⟨h1,by unfold personV; rw [if_pos h1,h2]⟩
theorem wgt_app {α:Type} (g:α→List UInt8) (hg:∀ x,0<(g x).length) (l:List α) (r:List UInt8):l.length<wgt (l.flatMap g ++ r) false+1:=by
 have:l.length≤(l.flatMap g).length:=by
  induction l with
  | nil=>simp
  | cons x l ih=>have:=hg x; rw [List.flatMap_cons,List.length_append,List.length_cons]; omega
 unfold wgt
 rw [List.length_append]; omega
theorem com_body {c:ComL} (h:rightC c=true) (h20:c.tree.length=20) (hp:∀ p∈c.parents,p.length=20):parB11 (bodyC c)=true∧parC11 (bodyC c)=c:=by
 obtain ⟨h1,h2,h3⟩:=rightC_parts h
 obtain ⟨h4,h5⟩:=personV_text h1
 obtain ⟨h6,h7⟩:=personV_text h2
 generalize hs:bodyC c=s
 rw [bodyC_shape] at hs
 obtain ⟨r4,e4⟩:∃ r,r=c.extras.flatMap exL ++ 10 :: c.message:=⟨_,rfl⟩
 obtain ⟨r3,e3⟩:∃ r,r=comW ++ (textW c.committer ++ 10 :: r4):=⟨_,rfl⟩
 obtain ⟨r2,e2⟩:∃ r,r=autW ++ (textW c.author ++ 10 :: r3):=⟨_,rfl⟩
 obtain ⟨r1,e1⟩:∃ r,r=c.parents.flatMap parL ++ r2:=⟨_,rfl⟩
 rw [← e4,← e3,← e2,← e1] at hs
 have eM:pM s=(hexL c.tree,r1,false):=by
  unfold pM; rw [← hs]; exact mustG_app false (by decide) (hexL_no10 _)
 have eB0:pB0 s=false:=by unfold pB0; rw [eM,hex_good _ h20]; rfl
 have eP:pP s=(r2,false,c.parents):=by
  unfold pP; rw [eB0,eM]; simp only; rw [e1]
  refine parentsG_app c.parents _ _ [] (wgt_app parL (fun p=>by simp [parL]) _ _) hp ?_
  rw [Bool.eq_false_iff]; intro hp
  obtain ⟨t,ht⟩:=pre_iff.1 hp
  rw [e2] at ht
  injection ht with ht _; exact absurd ht (by decide)
 have eA:pA s=(textW c.author,r3,false):=by
  unfold pA; rw [eP]; simp only; rw [e2]; exact mustG_app false (by decide) (textW_no10 h1)
 have eB1:pB1 s=false:=by unfold pB1; rw [eA]; simp only; rw [h4]; rfl
 have eC:pC s=(textW c.committer,r4,false):=by
  unfold pC; rw [eA,eB1]; simp only; rw [e3]; exact mustG_app false (by decide) (textW_no10 h2)
 have eB2:pB2 s=false:=by unfold pB2; rw [eC]; simp only; rw [h6]; rfl
 have eE:pE s=(10 :: c.message,false,c.extras):=by
  unfold pE; rw [eB2,eC]; simp only; rw [e4]
  exact extrasG_app c.extras _ c.message [] (wgt_app exL (fun x=>by simp [exL]; omega) _ _) h3
 have eL:pL s=([],c.message,false):=by
  unfold pL; rw [eE]
  exact mustG_app (w:=[]) (x:=[]) false (by decide) (by decide)
 constructor
 ·unfold parB11; rw [eL]; rfl
 ·unfold parC11
  rw [eM,eP,eA,eC,eE,eL]
  simp only
  rw [h5,h7,pOut_hex _ h20]
theorem parC11_len (s:List UInt8):(parC11 s).tree.length=20∧∀ p∈(parC11 s).parents,p.length=20:=by
 refine ⟨pOut_len _,?_⟩
 exact parentsG_len (wgt (pM s).2.1 (pB0 s)+1) (pM s).2.1 (pB0 s) [] ⟨parentsG_len.parentsG_l _ _ _ _,by simp⟩
theorem body_com {s:List UInt8} (h:parB11 s=true):rightC (parC11 s)=true∧bodyC (parC11 s)=s:=by
 obtain ⟨l1,l2⟩:(pL s).2.2=false∧(pL s).1=[]:=by
  unfold parB11 at h
  cases g:(pL s).2.2 <;> simp [g] at h ⊢
  exact h
 obtain ⟨e1,e2,-⟩:=mustG_inv (s:=(pE s).1) (b:=(pE s).2.1) (w:=[]) l1
 have e2:(pE s).1=[] ++ ((pL s).1 ++ 10 :: (pL s).2.1):=e2
 obtain ⟨b2,es,f1,f2,f3⟩:=extrasG_inv _ _ _ _ e1
 have f1:(pE s).2.2=[] ++ es:=f1
 have f3:(pC s).2.1=es.flatMap exL ++ (pE s).1:=f3
 obtain ⟨c1,c2⟩:(pC s).2.2=false∧personB (pC s).1=true:=by
  unfold pB2 at b2
  cases g1:(pC s).2.2 <;> cases g2:personB (pC s).1 <;> simp [g1,g2] at b2 ⊢
 obtain ⟨b1,c3,-⟩:=mustG_inv (s:=(pA s).2.1) (b:=pB1 s) (w:=comW) c1
 have c3:(pA s).2.1=comW ++ ((pC s).1 ++ 10 :: (pC s).2.1):=c3
 obtain ⟨a1,a2⟩:(pA s).2.2=false∧personB (pA s).1=true:=by
  unfold pB1 at b1
  cases g1:(pA s).2.2 <;> cases g2:personB (pA s).1 <;> simp [g1,g2] at b1 ⊢
 obtain ⟨p1,a3,-⟩:=mustG_inv (s:=(pP s).1) (b:=(pP s).2.1) (w:=autW) a1
 have a3:(pP s).1=autW ++ ((pA s).1 ++ 10 :: (pA s).2.1):=a3
 obtain ⟨b0,ps,q1,q2⟩:=parentsG_inv _ _ _ _ p1
 have q1:(pP s).2.2=[] ++ ps:=q1
 have q2:(pM s).2.1=ps.flatMap parL ++ (pP s).1:=q2
 obtain ⟨m1,m2⟩:(pM s).2.2=false∧goodQ (pM s).1=true:=by
  unfold pB0 at b0
  cases g1:(pM s).2.2 <;> cases g2:goodQ (pM s).1 <;> simp [g1,g2] at b0 ⊢
 obtain ⟨-,m3,-⟩:=mustG_inv (s:=s) (b:=false) (w:=treW) m1
 have m3:s=treW ++ ((pM s).1 ++ 10 :: (pM s).2.1):=m3
 obtain ⟨t1,t2⟩:=text_person a2
 obtain ⟨t3,t4⟩:=text_person c2
 have v1:personV (pA s).1=personW (pA s).1:=if_pos a2
 have v2:personV (pC s).1=personW (pC s).1:=if_pos c2
 constructor
 ·unfold rightC parC11
  simp only
  rw [v1,v2,t1,t3,f1,List.nil_append,f2]; rfl
 ·rw [bodyC_shape]
  unfold parC11
  simp only
  rw [v1,v2,t2,t4,hex_pOut _ m2,f1,q1,List.nil_append,List.nil_append]
  rw [l2,List.nil_append,List.nil_append] at e2
  conv=>rhs; rw [m3,q2,a3,c3,f3,e2]
end Go.Proofs.YtgaehhechonegaaGreatDoor
