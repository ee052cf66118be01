import Derived.Test.YtgaehhechonegaaGreatDoorWFLTrn1
import Derived.Test.YtgaehhechonegaaGreatDoorWFRFDec
import Derived.Test.YtgaehhechonegaaGreatDoorWFRight
import Derived.Test.YtgaehhechonegaaGreatDoorWLinLaw
open Nat (reduceDiv reduceMod reduceSub reduceAdd reduceLeDiff reduceEqDiff)
set_option linter.all false
namespace Go.Proofs.YtgaehhechonegaaGreatDoor
open Go.RowKit
open Go.Lib (index hasPrefix cut indexAny itoa)
def chu (c:Int):UInt8:=UInt8.ofNat c.toNat
theorem takeS_mem {l:List UInt8} {i:Nat} {x:UInt8} (hi:i<l.length):x∈l.take (i+1)↔x∈l.take i∨x=l[i]:=by
 rw [List.take_add_one,List.getElem?_eq_getElem hi,Option.toList_some,List.mem_append,List.mem_singleton]
def runtilS:Spec:=fun xs hp=>match xs,hp with
 | [.str s,.int .u8 c],[]=>some ⟨.tup [.str (cut s [chu c]).1,.str (cut s [chu c]).2.1],[],s.length≤1000000000000∧0≤c∧c<256⟩
 | _,_=>none
def rgkeyedS:Spec:=fun xs hp=>match xs,hp with
 | [.str s],[]=>some ⟨.bool (keyedB s),[],s.length≤1000000000000⟩
 | _,_=>none
set_option maxHeartbeats 2000000 in
theorem rgkeyed_ok:FnOk Tryz.prog 38 rgkeyedS:=by
 refine fn_slim2 Tryz.func38 s_rgkeyed (Φ:=phiL []) phi_nil ?_
 intro xs hp r hs hp'
 unfold rgkeyedS at hs
 split at hs
 ·injection hs with hs; subst hs
  rename_i s
  have p1:s.length≤1000000000000:=hp'
  refine ⟨len_le (by kernel_rfl),?_⟩
  by_cases g1:s.length<1
  ·have d1:decide ((s.length:Int)<1)=true:=decide_eq_true (by omega)
   have e:s=[]:=List.length_eq_zero_iff.1 (by omega)
   have e2:keyedB s=false:=by rw [e]; rfl
   simp only [c_rgkeyed,r_rgkeyed,d1,e2,go_sem,reduceDiv,reduceMod,↓reduceIte]
  have d1:decide ((s.length:Int)<1)=false:=decide_eq_false (by omega)
  by_cases g2:100<s.length
  ·have d2:decide (100<(s.length:Int))=true:=decide_eq_true (by omega)
   have e2:keyedB s=false:=by unfold keyedB; rw [decide_eq_false (by omega:¬ s.length≤100)]; simp
   simp only [c_rgkeyed,r_rgkeyed,d1,d2,e2,go_sem,reduceDiv,reduceMod,↓reduceIte]
  have d2:decide (100<(s.length:Int))=false:=decide_eq_false (by omega)
  simp only [c_rgkeyed,d1,d2,go_sem,reduceDiv,reduceMod,↓reduceIte]
  refine loop2P [] [0,3] [] (fun i:Nat=>⟨[(0,.str s),(3,.int .i64 (i:Int))],[]⟩)
   (fun i=>i≤s.length∧(s.take i).all keyC=true) (fun i=>s.length - i) 0 (by rfl) ⟨Nat.zero_le _,by simp⟩ ⟨rfl,by rfl⟩ (fun i hi R hR=>?_)
  obtain ⟨i1,i2⟩:=hi
  by_cases hil:i<s.length
  ·have c1:decide ((i:Int)<(s.length:Int))=true:=decide_eq_true (by omega)
   have hat:=at8_nat hil
   have hk:=keyC_int s[i]
   have hlt:=s[i].toNat_lt
   have hnext:keyC s[i]=true→(s.take (i+1)).all keyC=true:=fun h=>by
    rw [List.take_add_one,List.getElem?_eq_getElem hil,Option.toList_some,List.all_append,i2]; simp [h]
   have hbad:keyC s[i]=false→keyedB s=false:=fun h=>by
    unfold keyedB
    rw [show s.all keyC=false from List.all_eq_false.2 ⟨s[i],List.getElem_mem _,by rw [h]; simp⟩,Bool.and_false]
   generalize hn:(s[i].toNat:Int)=n at *
   have hn0:0≤n:=by omega
   have hc:n=45∨n=95∨(97≤n∧n≤122)∨(65≤n∧n≤90)∨(48≤n∧n≤57)∨n<45∨(45<n∧n<48)∨(57<n∧n<65)∨(90<n∧n<95)∨n=96∨122<n:=by omega
   rcases hc with h | h | h | h | h | h | h | h | h | h | h
   all_goals (
    first | have f1:decide (97≤n)=true:=decide_eq_true (by omega) | have f1:decide (97≤n)=false:=decide_eq_false (by omega)
    first | have f2:decide (n≤122)=true:=decide_eq_true (by omega) | have f2:decide (n≤122)=false:=decide_eq_false (by omega)
    first | have f3:decide (65≤n)=true:=decide_eq_true (by omega) | have f3:decide (65≤n)=false:=decide_eq_false (by omega)
    first | have f4:decide (n≤90)=true:=decide_eq_true (by omega) | have f4:decide (n≤90)=false:=decide_eq_false (by omega)
    first | have f5:decide (48≤n)=true:=decide_eq_true (by omega) | have f5:decide (48≤n)=false:=decide_eq_false (by omega)
    first | have f6:decide (n≤57)=true:=decide_eq_true (by omega) | have f6:decide (n≤57)=false:=decide_eq_false (by omega)
    first | have f7:decide (n=45)=true:=decide_eq_true (by omega) | have f7:decide (n=45)=false:=decide_eq_false (by omega)
    first | have f8:decide (n=95)=true:=decide_eq_true (by omega) | have f8:decide (n=95)=false:=decide_eq_false (by omega)
    rw [f1,f2,f3,f4,f5,f6,f7,f8] at hk
    simp only [Bool.and_true,Bool.and_false,Bool.or_true,Bool.or_false] at hk
    clear h
    simp only [b_rgkeyed_0,r_rgkeyed,c1,hat,f1,f2,f3,f4,f5,f6,f7,f8,Int.toNat_natCast,go_sem,reduceDiv,reduceMod,↓reduceIte])
   all_goals first | exact ⟨⟨by omega,by omega⟩,⟨by omega,by omega⟩,hR _ (i+1) ⟨hil,hnext hk⟩ (by omega) rfl⟩ | exact ⟨⟨by omega,by omega⟩,by rw [hbad hk]⟩
  ·have c1:decide ((i:Int)<(s.length:Int))=false:=decide_eq_false (by omega)
   rw [List.take_of_length_le (by omega)] at i2
   have hkb:keyedB s=true:=by
    unfold keyedB; rw [i2,Bool.and_true,decide_eq_true (by omega:s.length≤100),Bool.and_true]
    exact decide_eq_true (fun e=>by rw [e] at g1; exact g1 (by decide))
   rw [hkb]
   simp only [b_rgkeyed_0,t_rgkeyed_0,r_rgkeyed,c1,go_sem,reduceDiv,reduceMod,↓reduceIte]
 ·cases hs
def b_rparts_0:ACode:=(.seq (.seq (.reg none [oS 6 (.mv (.t 5)),oS 7 (.mv (.t 0)),oS 8 (.len none true (.t 7)),oS 9 (.bin .lss (.t 6) (.t 8))]) (.cond (.t 9) .skip (.exit 0))) (.seq (.block 1 (.seq (.seq (.reg none [oS 12 (.mv (.t 0)),oS 13 (.mv (.t 5)),oS 14 (.idxS (.t 12) (.t 13)),oS 15 (.bin .eql (.t 14) (.c (.int .u8 47)))]) (.cond (.t 15) (.seq (.reg none [oS 16 (.mv (.t 3)),oS 17 (.mv (.t 4)),oS 18 (.buildSl 9 1 [(.t 17)]),oS 19 (.app 9 1 16 (.t 16) (.t 18)),oS 3 (.mv (.t 19))]) (.seq (.reg none [oS 4 (.mv (.c (.str [])))]) (.exit 1))) .skip)) (.reg none [oS 20 (.mv (.t 4)),oS 21 (.mv (.t 0)),oS 22 (.mv (.t 5)),oS 23 (.mv (.t 5)),oS 24 (.bin .add (.t 23) (.c (.int .i64 1))),oS 25 (.slS (.t 21) (some (.t 22)) (some (.t 24))),oS 26 (.bin .add (.t 20) (.t 25)),oS 4 (.mv (.t 26))]))) (.reg none [oS 10 (.mv (.t 5)),oS 11 (.bin .add (.t 10) (.c (.int .i64 1))),oS 5 (.mv (.t 11))])))
def t_rparts_0:ACode:=(.seq (.reg none [oS 27 (.mv (.t 3)),oS 28 (.mv (.t 4)),oS 29 (.buildSl 9 1 [(.t 28)]),oS 30 (.app 9 1 16 (.t 27) (.t 29)),oS 2 (.mv (.t 30))]) .ret)
def c_rparts:ACode:=(.seq (.reg none [oS 2 (.mv (.c (.con (.slice none 0 0))))]) (.seq (.reg none [oS 3 (.mv (.c (.con (.slice none 0 0))))]) (.seq (.reg none [oS 4 (.mv (.c (.str [])))]) (.seq (.seq (.reg none [oS 5 (.mv (.c (.int .i64 0)))]) (.block 0 (.loop b_rparts_0))) t_rparts_0))))
def r_rparts:List ARes:=[(.t 2)]
theorem s_rparts:slimF Tryz.prog Tryz.f68=some (c_rparts,r_rparts):=by kernel_rfl
def rpartsS:Spec:=fun xs hp=>match xs,hp with
 | [.str s],[]=>some ⟨.own 0 (psl 47 s).length,[.row 9 1 (psl 47 s).length ((psl 47 s).map AV.str)],s.length≤1000000⟩
 | _,_=>none
theorem rparts_ok:FnOk Tryz.prog 68 rpartsS:=by
 refine fn_slim Tryz.func68 s_rparts (Φ:=phiL []) phi_nil ?_
 intro xs hp r hs hp'
 unfold rpartsS at hs
 split at hs
 ·injection hs with hs; subst hs
  rename_i s
  have hp2:s.length≤1000000:=hp'
  refine ⟨len_le (by kernel_rfl),?_⟩
  simp only [c_rparts,r_rparts,awp_reg,awp_seq,awp_block,awp_loop,arun_nil,arun_op,aq_some,thenQ_n,astep,stV,aval,slots,St.ev,St.put,true_and,List.length_nil]
  refine loop_at [(3,9,1)] [0,3,4,5] [0] (fun a:Nat × List (List UInt8) × List UInt8=>⟨[(0,.str s),(3,.own 0 a.2.1.length),(4,.str a.2.2),(5,.int .i64 (a.1:Int))],[.row 9 1 a.2.1.length (a.2.1.map AV.str)]⟩)
   (fun a=>a.1≤s.length∧a.2.1 ++ pre1 a.2.2 (psl 47 (s.drop a.1))=psl 47 s∧a.2.1.length≤a.1∧a.2.2.length≤a.1) (fun a=>s.length - a.1) (0,[],[]) rfl ⟨by omega,by simp [pre1_nil _ (psl_ne 47 s)],by simp,by simp⟩ ⟨rfl,rfl⟩ (fun a ha=>?_)
  obtain ⟨i,done,one⟩:=a
  obtain ⟨i1,i2,i3,i4⟩:=ha
  simp only at i1 i2 i3 i4
  by_cases hil:i<s.length
  ·have c1:decide ((i:Int)<(s.length:Int))=true:=decide_eq_true (by omega)
   have hdr:s.drop i=s.getD i 0 :: s.drop (i+1):=by
    rw [List.drop_eq_getElem_cons hil,List.getD_eq_getElem?_getD,List.getElem?_eq_getElem hil]; rfl
   have hat:at8 s i=((s.getD i 0).toNat:Int):=rfl
   have htk:(s.take (i+1)).drop i=[s.getD i 0]:=by
    rw [← List.take_drop,hdr]; rfl
   rw [hdr] at i2
   generalize hb:s.getD i 0=b at *
   by_cases h47:b=47
   ·subst h47
    rw [pre1_psl_eq] at i2
    have c2:decide ((((47:UInt8).toNat:Nat):Int)=47)=true:=rfl
    simp only [b_rparts_0,t_rparts_0,c1,hat,c2,awp_skip,awp_reg,awp_seq,awp_cond,awp_block,awp_exit,arun_nil,arun_op,aq_some,isB_t,thenQ_n,thenQ_x,inQ_x,astep,stV,stN,stE,aval,anew,aElems,frzS,aeff,Int.toNat_natCast,aBin,aInt,arI,aIdxS,AV.isStr,aLen,pureB,szOk,view,St.ev,lk,St.put,lentO,renObj,posOf,lenOk_1,↓reduceIte,Option.isSome_none,Bool.or_true,reduceEqDiff,beq_self_eq_true,List.set,true_and,List.length_cons,List.length_nil,reduceAdd,List.nil_append,List.cons_append,Option.map,mapO,ren,kp,List.range,List.range.loop,List.getElem?_cons_zero,List.getElem?_cons_succ,reduceCtorEq,eq_self,and_self]
    refine ⟨⟨by omega,by omega⟩,⟨by (first | omega | (simp only [lenOk,List.length_append,List.length_cons,List.length_nil,List.length_map]; omega)),by (first | omega | (simp only [bytesOk,List.length_append,List.length_cons,List.length_nil,List.length_map]; omega))⟩,by (first | omega | (simp only [inI]; omega)),(i+1,done ++ [one],[]),⟨by simp only; omega,by simp only [List.append_assoc,List.singleton_append]; exact i2,by simp; omega,by simp⟩,by simp only; omega,by simp⟩
   ·have c2:decide ((b.toNat:Int)=47)=false:=decide_eq_false (by intro h; apply h47; apply UInt8.toNat.inj; show b.toNat=47; omega)
    rw [pre1_psl_ne h47] at i2
    simp only [b_rparts_0,t_rparts_0,c1,hat,c2,awp_skip,awp_reg,awp_seq,awp_cond,awp_block,arun_nil,arun_op,aq_some,isB_t,isB_f,isB_g,thenQ_n,inQ_n,astep,stV,aval,Int.toNat_natCast,aBin,aInt,aStr,arI,aIdxS,aLo,aHi,cutL,aSlS,AV.isStr,aLen,St.ev,lk,St.put,lentO,renObj,posOf,↓reduceIte,Option.isSome_none,Bool.or_true,reduceEqDiff,beq_self_eq_true,true_and,List.length_cons,List.length_nil,reduceAdd,Option.map,mapO,ren,kp,List.range,List.range.loop,List.getElem?_cons_zero,reduceCtorEq,eq_self]
    have ht:(((i:Int)+1).toNat)=i+1:=by omega
    rw [ht,htk]
    refine ⟨⟨by omega,by omega⟩,by (first | omega | (simp only [inI]; omega)),⟨by omega,by omega,by omega⟩,by (first | omega | (simp only [lenOk,List.length_cons,List.length_nil]; omega)),by (first | omega | (simp only [inI]; omega)),(i+1,done,one ++ [b]),⟨by simp only; omega,i2,by simp only; omega,by simp; omega⟩,by simp only; omega,by simp⟩
  ·have c1:decide ((i:Int)<(s.length:Int))=false:=decide_eq_false (by omega)
   obtain rfl:i=s.length:=by omega
   rw [List.drop_length] at i2
   simp only [psl,pre1,List.append_nil] at i2
   simp only [b_rparts_0,t_rparts_0,c1,awp_reg,awp_seq,awp_cond,awp_exit,awp_ret,arun_nil,arun_op,aq_some,isB_f,isB_g,thenQ_n,thenQ_x,inQ_x,retQ_r,astep,stV,stN,stE,aval,anew,aElems,frzS,aeff,aret,ares,aBin,aInt,AV.isStr,aLen,pureB,szOk,view,St.ev,lk,St.put,lentO,renObj,posOf,lenOk_1,↓reduceIte,Option.isSome_none,Bool.or_true,reduceEqDiff,beq_self_eq_true,List.set,true_and,List.length_cons,List.length_nil,reduceAdd,List.nil_append,List.cons_append,Option.map,mapO,ren,kp,List.range,List.range.loop,List.getElem?_cons_zero,List.getElem?_cons_succ,reduceCtorEq,eq_self,and_self]
   rw [← i2]
   refine ⟨⟨by (first | omega | (simp only [lenOk,List.length_append,List.length_cons,List.length_nil,List.length_map]; omega)),by (first | omega | (simp only [bytesOk,List.length_append,List.length_cons,List.length_nil,List.length_map]; omega))⟩,?_⟩
   simp only [List.length_append,List.map_append,List.length_cons,List.length_nil,Bool.false_eq_true,renObj,finP,finI,closeIds,addNew,idsOf,List.flatMap_nil,List.flatMap_cons,List.append_nil,List.nil_append,List.take_zero,nodupB,posOf,idsObj,List.getD_cons_zero,List.range,List.range.loop,ren,lentO,mapO,Option.map,↓reduceIte,and_true,List.getElem?_cons_zero,reduceAdd,List.contains_nil,Bool.not_false,Bool.and_true,List.map_nil,List.map_cons]
 ·cases hs
def b_rright_0:ACode:=(.seq (.seq (.reg none [oS 9 (.mv (.t 3)),oS 10 (.mv (.t 0)),oS 11 (.len none true (.t 10)),oS 12 (.bin .lss (.t 9) (.t 11))]) (.cond (.t 12) .skip (.exit 0))) (.seq (.block 1 (.seq (.reg none [oS 15 (.mv (.t 0)),oS 16 (.mv (.t 3)),oS 17 (.idxS (.t 15) (.t 16)),oS 18 (.bin .eql (.t 17) (.c (.int .u8 0))),oS 19 (.mv (.t 18)),oH 20 (.mv (.t 0)) 19,oH 21 (.mv (.t 3)) 19,oH 22 (.idxS (.t 20) (.t 21)) 19,oH 23 (.bin .eql (.t 22) (.c (.int .u8 10))) 19,oS 24 (.pick (.t 19) (.c (.bool true)) (.t 23)),oS 25 (.mv (.t 24)),oH 26 (.mv (.t 0)) 25,oH 27 (.mv (.t 3)) 25,oH 28 (.idxS (.t 26) (.t 27)) 25,oH 29 (.bin .eql (.t 28) (.c (.int .u8 13))) 25,oS 30 (.pick (.t 25) (.c (.bool true)) (.t 29))]) (.cond (.t 30) (.seq (.reg none [oS 2 (.mv (.c (.bool false)))]) .ret) .skip))) (.reg none [oS 13 (.mv (.t 3)),oS 14 (.bin .add (.t 13) (.c (.int .i64 1))),oS 3 (.mv (.t 14))])))
def b_rright_1:ACode:=(.seq (.seq (.reg none [oS 33 (.mv (.t 5)),oS 34 (.mv (.t 4)),oS 35 (.len none false (.t 34)),oS 36 (.bin .lss (.t 33) (.t 35))]) (.cond (.t 36) .skip (.exit 2))) (.seq (.block 3 (.seq (.reg none [oS 39 (.mv (.t 4)),oS 40 (.mv (.t 5)),oS 41 (.ia 1 (.str []) (.t 39) (.t 40)),oS 42 (.ld (.one (.str [])) (.t 41)),oS 43 (.bin .eql (.t 42) (.c (.str []))),oS 44 (.mv (.t 43)),oH 45 (.mv (.t 4)) 44,oH 46 (.mv (.t 5)) 44,oH 47 (.ia 1 (.str []) (.t 45) (.t 46)) 44,oH 48 (.ld (.one (.str [])) (.t 47)) 44,oH 49 (.bin .eql (.t 48) (.c (.str [46]))) 44,oS 50 (.pick (.t 44) (.c (.bool true)) (.t 49)),oS 51 (.mv (.t 50)),oH 52 (.mv (.t 4)) 51,oH 53 (.mv (.t 5)) 51,oH 54 (.ia 1 (.str []) (.t 52) (.t 53)) 51,oH 55 (.ld (.one (.str [])) (.t 54)) 51,oH 56 (.bin .eql (.t 55) (.c (.str [46,46]))) 51,oS 57 (.pick (.t 51) (.c (.bool true)) (.t 56))]) (.cond (.t 57) (.seq (.reg none [oS 2 (.mv (.c (.bool false)))]) .ret) .skip))) (.reg none [oS 37 (.mv (.t 5)),oS 38 (.bin .add (.t 37) (.c (.int .i64 1))),oS 5 (.mv (.t 38))])))
def t_rright_0:ACode:=(.seq (.reg none [oS 2 (.mv (.c (.bool true)))]) .ret)
def t_rright_1:ACode:=(.seq (.reg none [oS 31 (.mv (.t 0)),oS 32 (.call 68 [(.t 31)]),oS 4 (.mv (.t 32))]) (.seq (.seq (.reg none [oS 5 (.mv (.c (.int .i64 0)))]) (.block 2 (.loop b_rright_1))) t_rright_0))
def c_rright:ACode:=(.seq (.reg none [oS 2 (.mv (.c (.bool false)))]) (.seq (.seq (.reg none [oS 6 (.mv (.t 0)),oS 7 (.len none true (.t 6)),oS 8 (.bin .gtr (.t 7) (.c (.int .i64 255)))]) (.cond (.t 8) (.seq (.reg none [oS 2 (.mv (.c (.bool false)))]) .ret) .skip)) (.seq (.seq (.reg none [oS 3 (.mv (.c (.int .i64 0)))]) (.block 0 (.loop b_rright_0))) t_rright_1)))
def r_rright:List ARes:=[(.t 2)]
theorem s_rright:slimF Tryz.prog Tryz.f39=some (c_rright,r_rright):=by kernel_rfl
def rrightS:Spec:=fun xs hp=>match xs,hp with
 | [.str s],[]=>some ⟨.bool (rightP s),[],s.length≤1000000⟩
 | _,_=>none
theorem rright_ok:FnOk Tryz.prog 39 rrightS:=by
 refine fn_slim Tryz.func39 s_rright (Φ:=phiL [(68,[],rpartsS)]) (phi_cons rparts_ok (by kernel_rfl) phi_nil) ?_
 intro xs hp r hs hp'
 unfold rrightS at hs
 split at hs
 ·injection hs with hs; subst hs
  rename_i s
  have hp2:s.length≤1000000:=hp'
  refine ⟨len_le (by kernel_rfl),?_⟩
  by_cases h1:255<s.length
  ·have d1:decide ((255:Int)<(s.length:Int))=true:=decide_eq_true (by omega)
   have e:rightP s=false:=by unfold rightP; rw [decide_eq_true h1]; rfl
   simp only [c_rright,r_rright,d1,e,awp_reg,awp_seq,awp_cond,awp_ret,arun_nil,arun_op,aq_some,isB_t,thenQ_n,thenQ_r,retQ_r,astep,stV,aval,slots,aret,ares,aBin,aInt,AV.isStr,aLen,St.ev,lk,St.put,↓reduceIte,Option.isSome_none,Bool.or_true,beq_self_eq_true,true_and,List.length_nil,reduceCtorEq,eq_self]
   simp only [renObj,finP,finI,closeIds,addNew,idsOf,List.flatMap_nil,List.take_zero,nodupB,posOf,idsObj,List.range,List.range.loop,ren,lentO,mapO,Option.map,and_true]
  ·have d1:decide ((255:Int)<(s.length:Int))=false:=decide_eq_false (by omega)
   simp only [c_rright,r_rright,d1,awp_skip,awp_reg,awp_seq,awp_cond,awp_block,awp_loop,arun_nil,arun_op,aq_some,isB_f,isB_g,thenQ_n,astep,stV,aval,slots,aBin,aInt,AV.isStr,aLen,St.ev,lk,St.put,↓reduceIte,Option.isSome_none,Bool.or_true,beq_self_eq_true,true_and,List.length_nil,reduceCtorEq,eq_self]
   refine loop_at [] [0,3] [] (fun i:Nat=>⟨[(0,.str s),(3,.int .i64 (i:Int))],[]⟩) (fun i=>i≤s.length∧(s.take i).any ctlB=false) (fun i=>s.length - i) 0 rfl ⟨by omega,by simp⟩ ⟨rfl,rfl⟩ (fun i hi=>?_)
   obtain ⟨i1,i2⟩:=hi
   by_cases hil:i<s.length
   ·have c1:decide ((i:Int)<(s.length:Int))=true:=decide_eq_true (by omega)
    have hat:at8 s i=((s.getD i 0).toNat:Int):=rfl
    have htk:s.take (i+1)=s.take i ++ [s.getD i 0]:=by
     rw [List.take_succ,List.getElem?_eq_getElem hil,List.getD_eq_getElem?_getD,List.getElem?_eq_getElem hil]; rfl
    have hany:s.any ctlB=((s.take (i+1)).any ctlB || (s.drop (i+1)).any ctlB):=by rw [← List.any_append,List.take_append_drop]
    rw [htk,List.any_append,i2,Bool.false_or] at hany
    have hstep:ctlB (s.getD i 0)=false→(s.take (i+1)).any ctlB=false:=by intro h; rw [htk,List.any_append,i2]; simpa using h
    have hlast:ctlB (s.getD i 0)=true→rightP s=false:=by
     intro h
     have:s.any ctlB=true:=by rw [hany,List.any_cons,h]; rfl
     unfold rightP; rw [this]; simp
    have hu:=(s.getD i 0).toNat_lt
    have key:∀ k:Nat,k<256→decide (((s.getD i 0).toNat:Int)=(k:Int))=decide (s.getD i 0=UInt8.ofNat k):=by
     intro k hk
     rw [Bool.eq_iff_iff,decide_eq_true_iff,decide_eq_true_iff]
     constructor
     ·intro h; have:(s.getD i 0).toNat=k:=by omega
      rw [← this]; simp
     ·intro h; rw [h]; simp; omega
    have k0:=key 0 (by omega)
    have k1:=key 10 (by omega)
    have k2:=key 13 (by omega)
    generalize s.getD i 0=b at *
    have hc:ctlB b=(decide (b=UInt8.ofNat 0) || decide (b=UInt8.ofNat 10) || decide (b=UInt8.ofNat 13)):=rfl
    rw [← k0,← k1,← k2] at hc
    clear key k0 k1 k2
    cases e0:decide ((b.toNat:Int)=((0:Nat):Int)) with
    | true =>
     have h2:=hlast (by rw [hc,e0]; rfl)
     simp only [Int.cast_ofNat_Int] at e0
     simp only [b_rright_0,t_rright_1,c1,hat,e0,h2,awp_skip,awp_reg,awp_seq,awp_cond,awp_block,awp_ret,arun_nil,arun_op,arun_gf,aq_some,isB_t,isB_u,thenQ_n,thenQ_r,inQ_r,retQ_r,astep,stV,aval,aret,ares,Int.toNat_natCast,aBin,aInt,aIdxS,AV.isStr,aLen,St.ev,lk,St.put,St.pin,lentO,renObj,posOf,↓reduceIte,Option.isSome_none,Bool.or_true,reduceEqDiff,beq_self_eq_true,true_and,List.length_nil,Option.map,mapO,ren,kp,List.range,List.range.loop,reduceCtorEq,eq_self]
     simp only [renObj,finP,finI,closeIds,addNew,idsOf,List.flatMap_nil,List.take_zero,nodupB,posOf,idsObj,List.range,List.range.loop,ren,lentO,mapO,Option.map,and_true]
     exact ⟨by omega,by omega⟩
    | false =>
     cases e1:decide ((b.toNat:Int)=((10:Nat):Int)) with
     | true =>
      have h2:=hlast (by rw [hc,e0,e1]; rfl)
      simp only [Int.cast_ofNat_Int] at e0 e1
      simp only [b_rright_0,t_rright_1,c1,hat,e0,e1,h2,awp_skip,awp_reg,awp_seq,awp_cond,awp_block,awp_ret,arun_nil,arun_op,arun_gf,aq_some,isB_t,isB_u,isB_f,thenQ_n,thenQ_r,inQ_r,retQ_r,astep,stV,aval,aret,ares,Int.toNat_natCast,aBin,aInt,aIdxS,AV.isStr,aLen,St.ev,lk,St.put,St.pin,lentO,renObj,posOf,↓reduceIte,Option.isSome_none,Bool.or_true,reduceEqDiff,beq_self_eq_true,true_and,List.length_nil,Option.map,mapO,ren,kp,List.range,List.range.loop,reduceCtorEq,eq_self,Bool.false_eq_true]
      simp only [renObj,finP,finI,closeIds,addNew,idsOf,List.flatMap_nil,List.take_zero,nodupB,posOf,idsObj,List.range,List.range.loop,ren,lentO,mapO,Option.map,and_true]
      exact ⟨⟨by omega,by omega⟩,by omega,by omega⟩
     | false =>
      cases e2:decide ((b.toNat:Int)=((13:Nat):Int)) with
      | true =>
       have h2:=hlast (by rw [hc,e0,e1,e2]; rfl)
       simp only [Int.cast_ofNat_Int] at e0 e1 e2
       simp only [b_rright_0,t_rright_1,c1,hat,e0,e1,e2,h2,awp_skip,awp_reg,awp_seq,awp_cond,awp_block,awp_ret,arun_nil,arun_op,arun_gf,aq_some,isB_t,isB_f,thenQ_n,thenQ_r,inQ_r,retQ_r,astep,stV,aval,aret,ares,Int.toNat_natCast,aBin,aInt,aIdxS,AV.isStr,aLen,St.ev,lk,St.put,St.pin,lentO,renObj,posOf,↓reduceIte,Option.isSome_none,Bool.or_true,reduceEqDiff,beq_self_eq_true,true_and,List.length_nil,Option.map,mapO,ren,kp,List.range,List.range.loop,reduceCtorEq,eq_self,Bool.false_eq_true]
       simp only [renObj,finP,finI,closeIds,addNew,idsOf,List.flatMap_nil,List.take_zero,nodupB,posOf,idsObj,List.range,List.range.loop,ren,lentO,mapO,Option.map,and_true]
       exact ⟨⟨by omega,by omega⟩,⟨by omega,by omega⟩,by omega,by omega⟩
      | false =>
       have h2:=hstep (by rw [hc,e0,e1,e2]; rfl)
       simp only [Int.cast_ofNat_Int] at e0 e1 e2
       simp only [b_rright_0,t_rright_1,c1,hat,e0,e1,e2,awp_skip,awp_reg,awp_seq,awp_cond,awp_block,arun_nil,arun_op,arun_gf,aq_some,isB_t,isB_f,isB_g,thenQ_n,inQ_n,astep,stV,aval,Int.toNat_natCast,aBin,aInt,arI,aIdxS,AV.isStr,aLen,St.ev,lk,St.put,St.pin,lentO,renObj,posOf,↓reduceIte,Option.isSome_none,Bool.or_true,reduceEqDiff,beq_self_eq_true,true_and,List.length_nil,Option.map,mapO,ren,kp,List.range,List.range.loop,reduceCtorEq,eq_self,Bool.false_eq_true]
       exact ⟨⟨by omega,by omega⟩,⟨by omega,by omega⟩,⟨by omega,by omega⟩,by (first | omega | (simp only [inI]; omega)),i+1,⟨by omega,h2⟩,by omega,rfl⟩
   ·have c1:decide ((i:Int)<(s.length:Int))=false:=decide_eq_false (by omega)
    obtain rfl:i=s.length:=by omega
    rw [List.take_length] at i2
    have e:rightP s=!(psl 47 s).any badP:=by unfold rightP; rw [i2,decide_eq_false h1]; simp
    have hlen:=psl_join_len 47 s
    simp only [b_rright_0,t_rright_1,rpartsS,c1,e,awp_reg,awp_seq,awp_cond,awp_block,awp_loop,awp_exit,arun_nil,arun_op,aq_some,isB_f,isB_g,thenQ_n,thenQ_x,inQ_x,astep,stV,stC,aval,aBin,aInt,AV.isStr,aLen,St.ev,lk,St.put,acall0,acall1,acall2,acall3,bor,bor0,bor1,phiL_at,tau,lentO,okIds,flatC,place,setAll_nil,nodupB,renObj,closeIds,addNew,idsOf,idsObj,posOf,↓reduceIte,Option.isSome_none,Bool.or_true,reduceEqDiff,reduceSub,Nat.reduceLT,beq_self_eq_true,List.map,List.flatMap_cons,List.flatMap_nil,true_and,and_true,List.length_cons,List.length_nil,reduceAdd,reduceLeDiff,List.nil_append,List.append_nil,Option.map,mapO,ren,kp,List.range,List.range.loop,List.getElem?_nil,List.drop_zero,List.all_nil,List.isEmpty_nil,Bool.and_true,Bool.not_false,List.contains_nil,reduceCtorEq,eq_self]
    refine ⟨by omega,?_⟩
    generalize psl 47 s=ps at *
    refine loop_at [] [4,5] [0] (fun i:Nat=>⟨[(4,.own 0 ps.length),(5,.int .i64 (i:Int))],[.row 9 1 ps.length (ps.map AV.str)]⟩) (fun i=>i≤ps.length∧(ps.take i).any badP=false) (fun i=>ps.length - i) 0 rfl ⟨by omega,by simp⟩ ⟨rfl,rfl⟩ (fun i hi=>?_)
    obtain ⟨j1,j2⟩:=hi
    by_cases hjl:i<ps.length
    ·have c2:decide ((i:Int)<(ps.length:Int))=true:=decide_eq_true (by omega)
     have hget:(ps.map AV.str).getD i (.str [])=.str (ps.getD i []):=by
      simp [List.getD_eq_getElem?_getD,List.getElem?_map,List.getElem?_eq_getElem hjl]
     have htk:ps.take (i+1)=ps.take i ++ [ps.getD i []]:=by
      rw [List.take_succ,List.getElem?_eq_getElem hjl,List.getD_eq_getElem?_getD,List.getElem?_eq_getElem hjl]; rfl
     have hany:ps.any badP=((ps.take (i+1)).any badP || (ps.drop (i+1)).any badP):=by rw [← List.any_append,List.take_append_drop]
     rw [htk,List.any_append,j2,Bool.false_or] at hany
     have hstep:badP (ps.getD i [])=false→(ps.take (i+1)).any badP=false:=by intro h; rw [htk,List.any_append,j2]; simpa using h
     have hlast:badP (ps.getD i [])=true→ps.any badP=true:=by intro h; rw [hany,List.any_cons,h]; rfl
     generalize ps.getD i []=q at *
     have hb:badP q=(decide (q=[]) || decide (q=[46]) || decide (q=[46,46])):=rfl
     cases e0:decide (q=[]) with
     | true =>
      have h2:=hlast (by rw [hb,e0]; rfl)
      simp only [b_rright_1,t_rright_0,c2,hget,e0,h2,Int.toNat_natCast,awp_skip,awp_reg,awp_seq,awp_cond,awp_block,awp_ret,arun_nil,arun_op,arun_gf,aq_some,isB_t,isB_u,thenQ_n,thenQ_r,inQ_r,retQ_r,astep,stV,aval,aret,ares,Int.toNat_natCast,pt,rdP,aBin,aInt,aStr,aIa,aLd,pparts,AV.isStr,aLen,AV.multi,St.ev,lk,St.put,St.pin,lentO,renObj,posOf,↓reduceIte,Option.isSome_none,Bool.or_true,reduceEqDiff,beq_self_eq_true,true_and,List.length_cons,List.length_nil,reduceAdd,Option.map,mapO,ren,kp,List.range,List.range.loop,List.getElem?_cons_zero,Bool.not_true,eq_self,List.length_map,and_self]
      simp only [renObj,finP,finI,closeIds,addNew,idsOf,List.flatMap_nil,List.take_zero,nodupB,posOf,idsObj,List.range,List.range.loop,ren,lentO,mapO,Option.map,and_true]
      exact ⟨⟨by omega,by omega⟩,by omega⟩
     | false =>
      cases e1:decide (q=[46]) with
      | true =>
       have h2:=hlast (by rw [hb,e0,e1]; rfl)
       simp only [b_rright_1,t_rright_0,c2,hget,e0,e1,h2,Int.toNat_natCast,awp_skip,awp_reg,awp_seq,awp_cond,awp_block,awp_ret,arun_nil,arun_op,arun_gf,aq_some,isB_t,isB_u,isB_f,thenQ_n,thenQ_r,inQ_r,retQ_r,astep,stV,aval,aret,ares,Int.toNat_natCast,pt,rdP,aBin,aInt,aStr,aIa,aLd,pparts,AV.isStr,aLen,AV.multi,St.ev,lk,St.put,St.pin,lentO,renObj,posOf,↓reduceIte,Option.isSome_none,Bool.or_true,reduceEqDiff,beq_self_eq_true,true_and,List.length_cons,List.length_nil,reduceAdd,Option.map,mapO,ren,kp,List.range,List.range.loop,List.getElem?_cons_zero,Bool.not_true,eq_self,Bool.false_eq_true,List.length_map,and_self]
       simp only [renObj,finP,finI,closeIds,addNew,idsOf,List.flatMap_nil,List.take_zero,nodupB,posOf,idsObj,List.range,List.range.loop,ren,lentO,mapO,Option.map,and_true]
       exact ⟨⟨by omega,by omega⟩,by omega,⟨by omega,by omega⟩,by omega⟩
      | false =>
       cases e2:decide (q=[46,46]) with
       | true =>
        have h2:=hlast (by rw [hb,e0,e1,e2]; rfl)
        simp only [b_rright_1,t_rright_0,c2,hget,e0,e1,e2,h2,Int.toNat_natCast,awp_skip,awp_reg,awp_seq,awp_cond,awp_block,awp_ret,arun_nil,arun_op,arun_gf,aq_some,isB_t,isB_f,thenQ_n,thenQ_r,inQ_r,retQ_r,astep,stV,aval,aret,ares,Int.toNat_natCast,pt,rdP,aBin,aInt,aStr,aIa,aLd,pparts,AV.isStr,aLen,AV.multi,St.ev,lk,St.put,St.pin,lentO,renObj,posOf,↓reduceIte,Option.isSome_none,Bool.or_true,reduceEqDiff,beq_self_eq_true,true_and,List.length_cons,List.length_nil,reduceAdd,Option.map,mapO,ren,kp,List.range,List.range.loop,List.getElem?_cons_zero,Bool.not_true,eq_self,Bool.false_eq_true,List.length_map,and_self]
        simp only [renObj,finP,finI,closeIds,addNew,idsOf,List.flatMap_nil,List.take_zero,nodupB,posOf,idsObj,List.range,List.range.loop,ren,lentO,mapO,Option.map,and_true]
        exact ⟨⟨by omega,by omega⟩,by omega,⟨by omega,by omega⟩,by omega,⟨by omega,by omega⟩,by omega⟩
       | false =>
        have h2:=hstep (by rw [hb,e0,e1,e2]; rfl)
        simp only [b_rright_1,t_rright_0,c2,hget,e0,e1,e2,Int.toNat_natCast,awp_skip,awp_reg,awp_seq,awp_cond,awp_block,arun_nil,arun_op,arun_gf,aq_some,isB_t,isB_f,isB_g,thenQ_n,inQ_n,astep,stV,aval,Int.toNat_natCast,pt,rdP,aBin,aInt,aStr,arI,aIa,aLd,pparts,AV.isStr,aLen,AV.multi,St.ev,lk,St.put,St.pin,lentO,renObj,posOf,↓reduceIte,Option.isSome_none,Bool.or_true,reduceEqDiff,beq_self_eq_true,true_and,List.length_cons,List.length_nil,reduceAdd,Option.map,mapO,ren,kp,List.range,List.range.loop,List.getElem?_cons_zero,eq_self,Bool.false_eq_true,List.length_map,and_self]
        exact ⟨⟨by omega,by omega⟩,by omega,⟨by omega,by omega⟩,by omega,⟨by omega,by omega⟩,by omega,by (first | omega | (simp only [inI]; omega)),i+1,⟨by omega,h2⟩,by omega,rfl⟩
    ·have c2:decide ((i:Int)<(ps.length:Int))=false:=decide_eq_false (by omega)
     obtain rfl:i=ps.length:=by omega
     rw [List.take_length] at j2
     simp only [b_rright_1,t_rright_0,c2,j2,awp_reg,awp_seq,awp_cond,awp_exit,awp_ret,arun_nil,arun_op,aq_some,isB_f,isB_g,thenQ_n,thenQ_x,inQ_x,retQ_r,astep,stV,aval,aret,ares,aBin,aInt,AV.isStr,aLen,St.ev,lk,St.put,lentO,renObj,posOf,↓reduceIte,Option.isSome_none,Bool.or_true,reduceEqDiff,beq_self_eq_true,true_and,List.length_cons,List.length_nil,reduceAdd,Option.map,mapO,ren,kp,List.range,List.range.loop,List.getElem?_cons_zero,Bool.not_false,eq_self,List.length_map]
     simp only [renObj,finP,finI,closeIds,addNew,idsOf,List.flatMap_nil,List.take_zero,nodupB,posOf,idsObj,List.range,List.range.loop,ren,lentO,mapO,Option.map,and_true]
 ·cases hs
def rgrightS:Spec:=fun xs hp=>match xs,hp with
 | [.agg [(20,.blob m),(1,.str u),(1,.int .i64 t),(1,.int .i64 z),(1,.sl ke es),(1,.sl kf fs),(1,.str d)]],[] =>
  some ⟨.bool (rightH ⟨unV m,u,t,z,es.map unEx,fs.map unS,d⟩),[],es=(es.map unEx).map exV∧fs=(fs.map unS).map AV.str∧(ke=2∨es=[])∧(kf=1∨fs=[])∧es.length≤1000000∧fs.length≤1000000 ∧
   (∀ x∈es.map unEx,x.1.length≤1000000000)∧(∀ f∈fs.map unS,f.length≤1000000)∧u.length≤1000000⟩
 | _,_=>none
def phiRR:Phi:=phiL [(38,[],rgkeyedS),(39,[],rrightS)]
theorem phiRR_ok:PhiOk Tryz.prog phiRR:=phi_cons rgkeyed_ok (by kernel_rfl) (phi_cons rright_ok (by kernel_rfl) phi_nil)
theorem phiRR_1:phiRR 38=some ([],rgkeyedS):=rfl
theorem phiRR_2:phiRR 39=some ([],rrightS):=rfl
set_option maxHeartbeats 4000000 in
theorem rgright_ok:FnOk Tryz.prog 20 rgrightS:=by
 refine fn_slim2 Tryz.func20 s_rgright phiRR_ok ?_
 intro xs hp r hs hp'
 unfold rgrightS at hs
 split at hs
 ·injection hs with hs; subst hs
  rename_i m u t z ke es kf fs d
  obtain ⟨q1,q2,q3,q4,q5,q6,q7,q8,q9⟩:=hp'
  generalize unV m=m1 at *
  generalize es.map unEx=es at *
  subst q1
  generalize fs.map unS=fs at *
  subst q2
  rw [List.length_map] at q5 q6
  refine ⟨len_le (by kernel_rfl),?_⟩
  have bad1:(es.all fun x=>keyedB x.1)=false→rightH ⟨m1,u,t,z,es,fs,d⟩=false:=fun h=>by unfold rightH; simp only [h,Bool.and_false,Bool.false_and]
  have bad2:ascB (es.map Prod.fst)=false→rightH ⟨m1,u,t,z,es,fs,d⟩=false:=fun h=>by unfold rightH; simp only [h,Bool.and_false,Bool.false_and]
  have bad3:fs.all rightP=false→rightH ⟨m1,u,t,z,es,fs,d⟩=false:=fun h=>by unfold rightH; simp only [h,Bool.and_false,Bool.false_and]
  have bad4:ascB fs=false→rightH ⟨m1,u,t,z,es,fs,d⟩=false:=fun h=>by unfold rightH; simp only [h,Bool.and_false]
  have bad5:u=[]→rightH ⟨m1,u,t,z,es,fs,d⟩=false:=fun h=>by unfold rightH; simp [h]
  have bad6:u.contains 10=true→rightH ⟨m1,u,t,z,es,fs,d⟩=false:=fun h=>by unfold rightH; simp only [h,Bool.not_true,Bool.and_false,Bool.false_and]
  have bad7:t<0→rightH ⟨m1,u,t,z,es,fs,d⟩=false:=fun h=>by unfold rightH; simp only [decide_eq_false (by omega:¬ 0≤t),Bool.and_false,Bool.false_and]
  have bad8:4611686018427387904≤t→rightH ⟨m1,u,t,z,es,fs,d⟩=false:=fun h=>by unfold rightH; simp only [decide_eq_false (by omega:¬ t<4611686018427387904),Bool.and_false,Bool.false_and]
  have bad9:z < -86399→rightH ⟨m1,u,t,z,es,fs,d⟩=false:=fun h=>by unfold rightH; simp only [decide_eq_false (by omega:¬ -86399≤z),Bool.and_false,Bool.false_and]
  have bad0:86399<z→rightH ⟨m1,u,t,z,es,fs,d⟩=false:=fun h=>by unfold rightH; simp only [decide_eq_false (by omega:¬ z≤86399),Bool.and_false,Bool.false_and]
  by_cases k1:u=[]
  ·have a1:decide ((u.length:Int)=0)=true:=decide_eq_true (by rw [k1]; rfl)
   rw [bad5 k1]
   simp only [c_rgright,r_rgright,a1,go_sem,reduceDiv,reduceMod,↓reduceIte,reduceSub,reduceAdd,reduceCtorEq]
  have hul:u.length≠0:=fun h=>k1 (List.length_eq_zero_iff.1 h)
  have a1:decide ((u.length:Int)=0)=false:=decide_eq_false (by omega)
  by_cases k2:t<0
  ·have a2:decide (t<0)=true:=decide_eq_true k2
   rw [bad7 k2]
   simp only [c_rgright,r_rgright,a1,a2,go_sem,reduceDiv,reduceMod,↓reduceIte,reduceSub,reduceAdd,reduceLeDiff,reduceCtorEq]
  have a2:decide (t<0)=false:=decide_eq_false k2
  by_cases k3:4611686018427387904≤t
  ·have a3:decide (4611686018427387904≤t)=true:=decide_eq_true k3
   rw [bad8 k3]
   simp only [c_rgright,r_rgright,a1,a2,a3,go_sem,reduceDiv,reduceMod,↓reduceIte,reduceSub,reduceAdd,reduceLeDiff,reduceCtorEq]
  have a3:decide (4611686018427387904≤t)=false:=decide_eq_false k3
  by_cases k4:z < -86399
  ·have a4:decide (z < -86399)=true:=decide_eq_true k4
   rw [bad9 k4]
   simp only [c_rgright,r_rgright,a1,a2,a3,a4,go_sem,reduceDiv,reduceMod,↓reduceIte,reduceSub,reduceAdd,reduceLeDiff,reduceCtorEq]
  have a4:decide (z < -86399)=false:=decide_eq_false k4
  by_cases k5:86399<z
  ·have a5:decide (86399<z)=true:=decide_eq_true k5
   rw [bad0 k5]
   simp only [c_rgright,r_rgright,a1,a2,a3,a4,a5,go_sem,reduceDiv,reduceMod,↓reduceIte,reduceSub,reduceAdd,reduceLeDiff,reduceCtorEq]
  have a5:decide (86399<z)=false:=decide_eq_false k5
  simp only [c_rgright,a1,a2,a3,a4,a5,go_sem,reduceDiv,reduceMod,↓reduceIte,reduceSub,reduceAdd,reduceLeDiff,reduceCtorEq]
  refine loop2P [] [1,3] [0] (fun i:Nat=>⟨[(1,.ref 0 0 0),(3,.int .i64 (i:Int))],[.cells 49 [(20,.blob m),(1,.str u),(1,.int .i64 t),(1,.int .i64 z),(1,.sl ke (es.map exV)),(1,.sl kf (fs.map AV.str)),(1,.str d)]]⟩)
   (fun i=>i≤u.length∧(10:UInt8) ∉ u.take i) (fun i=>u.length - i) 0 (by rfl) ⟨Nat.zero_le _,by simp⟩ ⟨rfl,by rfl⟩ (fun i hi R hR=>?_)
  obtain ⟨i1,i2⟩:=hi
  by_cases hil:i<u.length
  ·have c1:decide ((i:Int)<(u.length:Int))=true:=decide_eq_true (by omega)
   have hat:=at8_nat hil
   have g1:decide (((u[i].toNat:Nat):Int)=10)=decide (u[i]=10):=u8_eq u[i] 10
   by_cases h:u[i]=10
   ·have d1:decide (u[i]=10)=true:=decide_eq_true h
    rw [bad6 (List.contains_iff_mem.2 (by rw [← h]; exact List.getElem_mem _))]
    simp only [b_rgright_0,r_rgright,c1,hat,g1,d1,Int.toNat_natCast,go_sem,reduceDiv,reduceMod,↓reduceIte,reduceSub,reduceAdd,reduceCtorEq]
    repeat' apply And.intro
    all_goals first | omega | rfl
   ·have d1:decide (u[i]=10)=false:=decide_eq_false h
    simp only [b_rgright_0,r_rgright,c1,hat,g1,d1,Int.toNat_natCast,go_sem,reduceDiv,reduceMod,↓reduceIte,reduceSub,reduceAdd,reduceCtorEq]
    refine ⟨⟨by omega,by omega⟩,⟨by omega,by omega⟩,hR _ (i+1) ⟨hil,fun hm=>?_⟩ (by omega) rfl⟩
    rcases (takeS_mem hil).1 hm with hm | hm
    ·exact i2 hm
    ·exact h hm.symm
  have c0:decide ((i:Int)<(u.length:Int))=false:=decide_eq_false (by omega)
  rw [List.take_of_length_le (by omega)] at i2
  have hu:u.contains 10=false:=by
   cases hh:u.contains 10 with
   | false=>rfl
   | true=>exact absurd (List.contains_iff_mem.1 hh) i2
  simp only [b_rgright_0,t_rgright_2,c0,go_sem,reduceDiv,reduceMod,↓reduceIte,reduceSub,reduceAdd,reduceCtorEq]
  clear hR R
  refine loop2P [] [1,4] [0] (fun i:Nat=>⟨[(1,.ref 0 0 0),(4,.int .i64 (i:Int))],[.cells 49 [(20,.blob m),(1,.str u),(1,.int .i64 t),(1,.int .i64 z),(1,.sl ke (es.map exV)),(1,.sl kf (fs.map AV.str)),(1,.str d)]]⟩)
   (fun i=>i≤es.length∧((es.take i).all fun x=>keyedB x.1)=true∧ascB ((es.map Prod.fst).take i)=true) (fun i=>es.length - i) 0 (by rfl) ⟨Nat.zero_le _,by simp,by simp [ascB]⟩ ⟨rfl,by rfl⟩ (fun i hi R hR=>?_)
  obtain ⟨i1,i2,i3⟩:=hi
  by_cases hil:i<es.length
  ·have c1:decide ((i:Int)<(es.length:Int))=true:=decide_eq_true (by omega)
   have hk:ke=2:=q3.resolve_right (by intro h; have:=congrArg List.length h; simp at this; rw [this] at hil; simp at hil)
   have hget:=getD_map exV es ([],[]) (AV.agg [(1,AV.str []),(1,AV.str [])]) hil
   have hga:es.getD i ([],[])=es[i]:=by simp [List.getD_eq_getElem?_getD,List.getElem?_eq_getElem hil]
   have hlen:=q7 es[i] (List.getElem_mem _)
   have hst:=asc_step (es.map Prod.fst) (i:=i) (by rw [List.length_map]; exact hil)
   rw [List.getElem_map] at hst
   have htk:(es.take (i+1)).all (fun x=>keyedB x.1)=keyedB es[i].1:=by
    rw [List.take_add_one,List.getElem?_eq_getElem hil,Option.toList_some,List.all_append,i2]; simp
   have hmem:es[i]∈es:=List.getElem_mem _
   have hall:keyedB es[i].1=false→(es.all fun x=>keyedB x.1)=false:=fun h=>List.all_eq_false.2 ⟨es[i],hmem,by rw [h]; simp⟩
   have hasc:ascB ((es.map Prod.fst).take (i+1))=false→ascB (es.map Prod.fst)=false:=fun h=>by
    cases hh:ascB (es.map Prod.fst) with
    | false=>rfl
    | true=>rw [ascB_take _ (i+1) hh] at h; cases h
   rw [i3,Bool.true_and] at hst
   subst hk
   generalize hx:es[i]=x at *
   cases h1:keyedB x.1 with
   | false =>
    rw [bad1 (hall h1)]
    simp only [b_rgright_1,r_rgright,c1,hget,hga,exV,h1,phiRR_1,rgkeyedS,Int.toNat_natCast,List.length_map,go_sem,reduceDiv,reduceMod,↓reduceIte,reduceSub,reduceAdd,reduceLeDiff,reduceCtorEq]
    repeat' apply And.intro
    all_goals first | omega | rfl
   | true =>
    rw [h1] at htk
    by_cases h0:i=0
    ·have d0:decide (0<(i:Int))=false:=decide_eq_false (by omega)
     rw [decide_eq_true h0,Bool.true_or] at hst
     simp only [b_rgright_1,r_rgright,c1,d0,hget,hga,exV,h1,phiRR_1,rgkeyedS,Int.toNat_natCast,List.length_map,go_sem,reduceDiv,reduceMod,↓reduceIte,reduceSub,reduceAdd,reduceLeDiff,reduceCtorEq]
     repeat' apply And.intro
     all_goals first | omega | exact hR _ (i+1) ⟨hil,htk,hst⟩ (by omega) rfl
    ·have d0:decide (0<(i:Int))=true:=decide_eq_true (by omega)
     rw [decide_eq_false h0,Bool.false_or] at hst
     have e1:((i:Int) - 1).toNat=i - 1:=by omega
     have hget1:=getD_map exV es ([],[]) (AV.agg [(1,AV.str []),(1,AV.str [])]) (show i - 1<es.length by omega)
     have hkg:(es.map Prod.fst).getD (i - 1) []=(es.getD (i - 1) ([],[])).1:=by
      simp [List.getD_eq_getElem?_getD,List.getElem?_eq_getElem (show i - 1<es.length by omega)]
     rw [hkg] at hst
     have htri:=less_tri (es.getD (i - 1) ([],[])).1 x.1
     cases h2:(Op.bytesLess x.1 (es.getD (i - 1) ([],[])).1 || decide (x.1=(es.getD (i - 1) ([],[])).1)) with
     | false =>
      rw [h2] at htri
      rw [htri] at hst
      simp only [b_rgright_1,r_rgright,c1,d0,e1,hget,hget1,hga,exV,h1,h2,phiRR_1,rgkeyedS,Int.toNat_natCast,List.length_map,go_sem,reduceDiv,reduceMod,↓reduceIte,reduceSub,reduceAdd,reduceLeDiff,reduceCtorEq]
      repeat' apply And.intro
      all_goals first | omega | exact hR _ (i+1) ⟨hil,htk,hst⟩ (by omega) rfl
     | true =>
      rw [h2] at htri
      rw [htri] at hst
      rw [bad2 (hasc hst)]
      simp only [b_rgright_1,r_rgright,c1,d0,e1,hget,hget1,hga,exV,h1,h2,phiRR_1,rgkeyedS,Int.toNat_natCast,List.length_map,go_sem,reduceDiv,reduceMod,↓reduceIte,reduceSub,reduceAdd,reduceLeDiff,reduceCtorEq]
      repeat' apply And.intro
      all_goals first | omega | rfl
  have c2:decide ((i:Int)<(es.length:Int))=false:=decide_eq_false (by omega)
  rw [List.take_of_length_le (by omega)] at i2
  rw [List.take_of_length_le (by rw [List.length_map]; omega)] at i3
  simp only [b_rgright_1,t_rgright_1,c2,List.length_map,go_sem,reduceDiv,reduceMod,↓reduceIte,reduceSub,reduceAdd,reduceLeDiff,reduceCtorEq]
  clear hR R
  refine loop2P [] [1,5] [0] (fun j:Nat=>⟨[(1,.ref 0 0 0),(5,.int .i64 (j:Int))],[.cells 49 [(20,.blob m),(1,.str u),(1,.int .i64 t),(1,.int .i64 z),(1,.sl ke (es.map exV)),(1,.sl kf (fs.map AV.str)),(1,.str d)]]⟩)
   (fun j=>j≤fs.length∧(fs.take j).all rightP=true∧ascB (fs.take j)=true) (fun j=>fs.length - j) 0 (by rfl) ⟨Nat.zero_le _,by simp,by simp [ascB]⟩ ⟨rfl,by rfl⟩ (fun j hj R2 hR2=>?_)
  obtain ⟨j1,j2,j3⟩:=hj
  by_cases hjl:j<fs.length
  ·have d1:decide ((j:Int)<(fs.length:Int))=true:=decide_eq_true (by omega)
   have hk:kf=1:=q4.resolve_right (by intro h; have:=congrArg List.length h; simp at this; rw [this] at hjl; simp at hjl)
   have hget:=getD_map AV.str fs [] (AV.str []) hjl
   have hga:fs.getD j []=fs[j]:=by simp [List.getD_eq_getElem?_getD,List.getElem?_eq_getElem hjl]
   have hlen:=q8 fs[j] (List.getElem_mem _)
   have hst:=asc_step fs hjl
   have htk:(fs.take (j+1)).all rightP=rightP fs[j]:=by
    rw [List.take_add_one,List.getElem?_eq_getElem hjl,Option.toList_some,List.all_append,j2]; simp
   have hmem:fs[j]∈fs:=List.getElem_mem _
   have hall:rightP fs[j]=false→fs.all rightP=false:=fun h=>List.all_eq_false.2 ⟨fs[j],hmem,by rw [h]; simp⟩
   have hasc:ascB (fs.take (j+1))=false→ascB fs=false:=fun h=>by
    cases hh:ascB fs with
    | false=>rfl
    | true=>rw [ascB_take _ (j+1) hh] at h; cases h
   rw [j3,Bool.true_and] at hst
   subst hk
   generalize hx:fs[j]=x at *
   cases h1:rightP x with
   | false =>
    rw [bad3 (hall h1)]
    simp only [b_rgright_2,r_rgright,d1,hget,hga,h1,phiRR_2,rrightS,Int.toNat_natCast,List.length_map,go_sem,reduceDiv,reduceMod,↓reduceIte,reduceSub,reduceAdd,reduceLeDiff,reduceCtorEq]
    repeat' apply And.intro
    all_goals first | omega | rfl
   | true =>
    rw [h1] at htk
    by_cases h0:j=0
    ·have d0:decide (0<(j:Int))=false:=decide_eq_false (by omega)
     rw [decide_eq_true h0,Bool.true_or] at hst
     simp only [b_rgright_2,r_rgright,d1,d0,hget,hga,h1,phiRR_2,rrightS,Int.toNat_natCast,List.length_map,go_sem,reduceDiv,reduceMod,↓reduceIte,reduceSub,reduceAdd,reduceLeDiff,reduceCtorEq]
     repeat' apply And.intro
     all_goals first | omega | exact hR2 _ (j+1) ⟨hjl,htk,hst⟩ (by omega) rfl
    ·have d0:decide (0<(j:Int))=true:=decide_eq_true (by omega)
     rw [decide_eq_false h0,Bool.false_or] at hst
     have e1:((j:Int) - 1).toNat=j - 1:=by omega
     have hget1:=getD_map AV.str fs [] (AV.str []) (show j - 1<fs.length by omega)
     have htri:=less_tri (fs.getD (j - 1) []) x
     cases h2:(Op.bytesLess x (fs.getD (j - 1) []) || decide (x=fs.getD (j - 1) [])) with
     | false =>
      rw [h2] at htri
      rw [htri] at hst
      simp only [b_rgright_2,r_rgright,d1,d0,e1,hget,hget1,hga,h1,h2,phiRR_2,rrightS,Int.toNat_natCast,List.length_map,go_sem,reduceDiv,reduceMod,↓reduceIte,reduceSub,reduceAdd,reduceLeDiff,reduceCtorEq]
      repeat' apply And.intro
      all_goals first | omega | exact hR2 _ (j+1) ⟨hjl,htk,hst⟩ (by omega) rfl
     | true =>
      rw [h2] at htri
      rw [htri] at hst
      rw [bad4 (hasc hst)]
      simp only [b_rgright_2,r_rgright,d1,d0,e1,hget,hget1,hga,h1,h2,phiRR_2,rrightS,Int.toNat_natCast,List.length_map,go_sem,reduceDiv,reduceMod,↓reduceIte,reduceSub,reduceAdd,reduceLeDiff,reduceCtorEq]
      repeat' apply And.intro
      all_goals first | omega | rfl
  ·have d1:decide ((j:Int)<(fs.length:Int))=false:=decide_eq_false (by omega)
   rw [List.take_of_length_le (by omega)] at j2 j3
   have hrr:rightH ⟨m1,u,t,z,es,fs,d⟩=true:=by
    unfold rightH
    simp only [i2,i3,j2,j3,hu,decide_eq_true k1,decide_eq_true (by omega:0≤t),decide_eq_true (by omega:t<4611686018427387904),decide_eq_true (by omega : -86399≤z),decide_eq_true (by omega:z≤86399)]
    rfl
   rw [hrr]
   simp only [b_rgright_2,t_rgright_0,r_rgright,d1,List.length_map,go_sem,reduceDiv,reduceMod,↓reduceIte,reduceSub,reduceAdd,reduceLeDiff,reduceCtorEq]
 ·cases hs
end Go.Proofs.YtgaehhechonegaaGreatDoor
