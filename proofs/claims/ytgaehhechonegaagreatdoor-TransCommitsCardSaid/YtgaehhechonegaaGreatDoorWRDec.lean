import Derived.Test.YtgaehhechonegaaGreatDoorWFCom1
import Derived.Test.YtgaehhechonegaaGreatDoorWFZone
import Derived.Test.YtgaehhechonegaaGreatDoorWRComCode
import Derived.Test.YtgaehhechonegaaGreatDoorWFCom5
import Derived.Test.YtgaehhechonegaaGreatDoorWShaParse
open Nat (reduceDiv reduceMod reduceSub reduceAdd reduceLeDiff reduceEqDiff)
set_option linter.all false
namespace Go.Proofs.YtgaehhechonegaaGreatDoor
open Go.RowKit
open Go.Lib (decDigits itoa)
noncomputable def decP:Nat→List UInt8:=sealF fun n=>if n=0 then [] else decDigits n
theorem decP_0:decP 0=[]:=by unfold decP; rw [sealF_eq]; rfl
theorem decP_pos {n:Nat} (h:0<n):decP n=decDigits n:=by unfold decP; rw [sealF_eq]; exact if_neg (by omega)
theorem decP_step {n:Nat} (h:0<n):decP n=decP (n / 10) ++ [dc (n % 10)]:=by
 rw [decP_pos h]
 by_cases h1:n<10
 ·rw [decD_small h1,Nat.div_eq_of_lt h1,decP_0,Nat.mod_eq_of_lt h1]; rfl
 ·rw [decD_big (by omega),decP_pos (by omega)]
theorem decD_last (n:Nat):decP (n / 10) ++ [dc (n % 10)]=decDigits n:=by
 by_cases h:n=0
 ·subst h; rw [decP_0,decD_small (by omega)]; rfl
 ·rw [← decP_step (by omega),decP_pos (by omega)]
def b_rdec_0:ACode:=(.seq (.seq (.reg none [oS 7 (.mv (.t 0)),oS 8 (.bin .lss (.t 7) (.c (.int .i64 0)))]) (.cond (.t 8) .skip (.exit 0))) (.block 1 (.seq (.reg none [oS 9 (.mv (.t 0)),oS 10 (.bin .rem (.t 9) (.c (.int .i64 10))),oS 11 (.bin .sub (.c (.int .i64 48)) (.t 10)),oS 12 (.toInt .u8 (.t 11)),oS 13 (.buildSl 5 1 [(.t 12)]),oS 14 (.toStr (.t 13)),oS 15 (.mv (.t 3)),oS 16 (.bin .add (.t 14) (.t 15)),oS 3 (.mv (.t 16))]) (.reg none [oS 17 (.mv (.t 0)),oS 18 (.bin .quo (.t 17) (.c (.int .i64 10))),oS 0 (.mv (.t 18))]))))
def b_rdec_1:ACode:=(.seq (.seq (.reg none [oS 29 (.mv (.t 0)),oS 30 (.bin .gtr (.t 29) (.c (.int .i64 0)))]) (.cond (.t 30) .skip (.exit 2))) (.seq (.block 3 (.reg none [oS 33 (.mv (.t 0)),oS 34 (.bin .rem (.t 33) (.c (.int .i64 10))),oS 35 (.bin .add (.c (.int .i64 48)) (.t 34)),oS 36 (.toInt .u8 (.t 35)),oS 37 (.buildSl 5 1 [(.t 36)]),oS 38 (.toStr (.t 37)),oS 39 (.mv (.t 4)),oS 40 (.bin .add (.t 38) (.t 39)),oS 4 (.mv (.t 40))])) (.reg none [oS 31 (.mv (.t 0)),oS 32 (.bin .quo (.t 31) (.c (.int .i64 10))),oS 0 (.mv (.t 32))])))
def t_rdec_0:ACode:=(.seq (.reg none [oS 41 (.mv (.t 4)),oS 2 (.mv (.t 41))]) .ret)
def t_rdec_1:ACode:=(.seq (.reg none [oS 21 (.mv (.t 0)),oS 22 (.bin .rem (.t 21) (.c (.int .i64 10))),oS 23 (.bin .add (.c (.int .i64 48)) (.t 22)),oS 24 (.toInt .u8 (.t 23)),oS 25 (.buildSl 5 1 [(.t 24)]),oS 26 (.toStr (.t 25)),oS 4 (.mv (.t 26))]) (.seq (.seq (.reg none [oS 27 (.mv (.t 0)),oS 28 (.bin .quo (.t 27) (.c (.int .i64 10))),oS 0 (.mv (.t 28))]) (.block 2 (.loop b_rdec_1))) t_rdec_0))
def c_rdec:ACode:=(.seq (.reg none [oS 2 (.mv (.c (.str [])))]) (.seq (.seq (.reg none [oS 5 (.mv (.t 0)),oS 6 (.bin .lss (.t 5) (.c (.int .i64 0)))]) (.cond (.t 6) (.seq (.reg none [oS 3 (.mv (.c (.str [])))]) (.seq (.block 0 (.loop b_rdec_0)) (.seq (.reg none [oS 19 (.mv (.t 3)),oS 20 (.bin .add (.c (.str [45])) (.t 19)),oS 2 (.mv (.t 20))]) .ret))) .skip)) t_rdec_1))
def r_rdec:List ARes:=[(.t 2)]
theorem s_rdec:slimF Tryz.prog Tryz.f44=some (c_rdec,r_rdec):=by kernel_rfl
theorem rdec_ok:FnOk Tryz.prog 44 itoaS:=by
 refine fn_slim Tryz.func44 s_rdec (Φ:=phiL []) phi_nil ?_
 intro xs hp r hs hp'
 unfold itoaS at hs
 split at hs
 ·injection hs with hs; subst hs
  rename_i n
  refine ⟨len_le (by kernel_rfl),?_⟩
  have hn:inI n:=hp'
  obtain ⟨hn1,hn2⟩:=hn
  by_cases hneg:n<0
  ·have d1:decide (n<0)=true:=decide_eq_true hneg
   obtain ⟨m,rfl⟩:∃ m:Nat,n = -(m:Int):=⟨n.natAbs,by omega⟩
   have hit:itoa (-(m:Int))=45 :: decDigits m:=Lib.itoa_neg m (by omega)
   have hlen:=decD_pow 18 m (by omega)
   simp only [c_rdec,d1,awp_reg,awp_seq,awp_cond,awp_block,awp_loop,arun_nil,arun_op,aq_some,isB_t,thenQ_n,astep,stV,aval,slots,aBin,aInt,St.ev,lk,St.put,↓reduceIte,true_and,List.length_nil,reduceCtorEq,eq_self]
   refine loop_at [] [0,3] [] (fun a:Nat × List UInt8=>⟨[(0,.int .i64 (-(a.1:Int))),(3,.str a.2)],[]⟩) (fun a=>decP a.1 ++ a.2=decDigits m∧a.1≤m) (fun a=>a.1) (m,[]) rfl ⟨by simp only [List.append_nil]; exact decP_pos (by omega),Nat.le_refl _⟩ ⟨rfl,rfl⟩ (fun a ha=>?_)
   obtain ⟨cur,s⟩:=a
   obtain ⟨ha,hb⟩:=ha
   simp only at ha hb
   have hl:=congrArg List.length ha
   rw [List.length_append] at hl
   by_cases hc:cur=0
   ·subst hc
    have d2:decide (-((0:Nat):Int)<0)=false:=decide_eq_false (by omega)
    rw [decP_0,List.nil_append] at ha
    subst ha
    simp only [b_rdec_0,r_rdec,d2,hit,awp_reg,awp_seq,awp_cond,awp_exit,awp_ret,arun_nil,arun_op,aq_some,isB_f,isB_g,thenQ_n,thenQ_x,thenQ_r,inQ_x,retQ_r,astep,stV,aval,aret,ares,aBin,aInt,aStr,St.ev,lk,St.put,lentO,renObj,posOf,↓reduceIte,reduceEqDiff,true_and,List.length_cons,List.length_nil,reduceAdd,List.nil_append,List.cons_append,Option.map,mapO,ren,kp,List.range,List.range.loop,reduceCtorEq,eq_self]
    simp only [renObj,finP,finI,closeIds,addNew,idsOf,List.flatMap_nil,List.take_zero,nodupB,posOf,idsObj,List.range,List.range.loop,ren,lentO,mapO,Option.map,and_true]
    (first | omega | (simp only [lenOk]; omega))
   ·have d2:decide (-(cur:Int)<0)=true:=decide_eq_true (by omega)
    have e1:(-(cur:Int)).tmod 10 = -((cur % 10:Nat):Int):=by rw [Int.neg_tmod,show (10:Int)=((10:Nat):Int) from rfl,tmod_nat]
    have e2:(-(cur:Int)).tdiv 10 = -((cur / 10:Nat):Int):=by rw [Int.neg_tdiv,show (10:Int)=((10:Nat):Int) from rfl,tdiv_nat]
    have e3:48 - -((cur % 10:Nat):Int)=((48+cur % 10:Nat):Int):=by omega
    simp only [b_rdec_0,d2,e1,e2,e3,wrap8n (show 48+cur % 10<256 by omega),Bs_o8 _ (show 48+cur % 10<256 by omega),unB_Bs,awp_skip,awp_reg,awp_seq,awp_cond,awp_block,arun_nil,arun_op,aq_some,isB_t,thenQ_n,inQ_n,astep,stV,stN,aval,anew,aElems,frzS,Bs_len,aBin,aInt,aStr,arI,aToInt,aToStr,pureB,szOk,view,St.ev,lk,St.put,lentO,renObj,posOf,lenOk_1,↓reduceIte,reduceEqDiff,true_and,List.length_cons,List.length_nil,reduceAdd,List.nil_append,List.cons_append,Option.map,mapO,ren,kp,List.range,List.range.loop,List.getElem?_cons_zero,reduceCtorEq,eq_self,and_self]
    refine ⟨by omega,by (first | omega | (simp only [inI]; omega)),by (first | omega | (simp only [lenOk]; omega)),⟨by omega,by (first | omega | (simp only [inI]; omega))⟩,(cur / 10,o8 (48+cur % 10) :: s),⟨?_,by simp only; omega⟩,by simp only; omega,rfl⟩
    rw [decP_step (by omega),List.append_assoc] at ha
    exact ha
  ·have d1:decide (n<0)=false:=decide_eq_false hneg
   obtain ⟨m,rfl⟩:∃ m:Nat,n=(m:Int):=⟨n.natAbs,by omega⟩
   have hit:itoa (m:Int)=decDigits m:=itoa_nat m
   have hlen:=decD_pow 18 m (by omega)
   have e1:∀ c:Nat,(c:Int).tmod 10=((c % 10:Nat):Int):=fun c=>tmod_nat c 10
   have e2:∀ c:Nat,(c:Int).tdiv 10=((c / 10:Nat):Int):=fun c=>tdiv_nat c 10
   have e3:∀ c:Nat,48+((c % 10:Nat):Int)=((48+c % 10:Nat):Int):=fun c=>by omega
   simp only [c_rdec,t_rdec_1,d1,e1,e2,e3,wrap8n (show 48+m % 10<256 by omega),Bs_o8 _ (show 48+m % 10<256 by omega),unB_Bs,awp_skip,awp_reg,awp_seq,awp_cond,awp_block,awp_loop,arun_nil,arun_op,aq_some,isB_f,isB_g,thenQ_n,astep,stV,stN,aval,anew,aElems,frzS,slots,Bs_len,aBin,aInt,arI,aToInt,aToStr,pureB,szOk,view,St.ev,lk,St.put,lenOk_1,↓reduceIte,true_and,List.length_cons,List.length_nil,reduceAdd,List.nil_append,List.getElem?_cons_zero,reduceCtorEq,eq_self,and_self]
   refine ⟨by omega,by (first | omega | (simp only [inI]; omega)),⟨by omega,by (first | omega | (simp only [inI]; omega))⟩,?_⟩
   refine loop_at [] [0,4] [] (fun a:Nat × List UInt8=>⟨[(0,.int .i64 (a.1:Int)),(4,.str a.2)],[]⟩) (fun a=>decP a.1 ++ a.2=decDigits m∧a.1≤m) (fun a=>a.1) (m / 10,[o8 (48+m % 10)]) rfl ⟨decD_last m,by simp only; omega⟩ ⟨rfl,rfl⟩ (fun a ha=>?_)
   obtain ⟨cur,s⟩:=a
   obtain ⟨ha,hb⟩:=ha
   simp only at ha hb
   have hl:=congrArg List.length ha
   rw [List.length_append] at hl
   by_cases hc:cur=0
   ·subst hc
    have d2:decide ((0:Int)<((0:Nat):Int))=false:=decide_eq_false (by omega)
    rw [decP_0,List.nil_append] at ha
    subst ha
    simp only [b_rdec_1,t_rdec_0,r_rdec,d2,hit,awp_reg,awp_seq,awp_cond,awp_exit,awp_ret,arun_nil,arun_op,aq_some,isB_f,isB_g,thenQ_n,thenQ_x,inQ_x,retQ_r,astep,stV,aval,aret,ares,aBin,aInt,St.ev,lk,St.put,lentO,renObj,posOf,↓reduceIte,reduceEqDiff,true_and,List.length_nil,Option.map,mapO,ren,kp,List.range,List.range.loop,reduceCtorEq,eq_self]
    simp only [renObj,finP,finI,closeIds,addNew,idsOf,List.flatMap_nil,List.take_zero,nodupB,posOf,idsObj,List.range,List.range.loop,ren,lentO,mapO,Option.map,and_true]
   ·have d2:decide ((0:Int)<(cur:Int))=true:=decide_eq_true (by omega)
    simp only [b_rdec_1,d2,e1,e2,e3,wrap8n (show 48+cur % 10<256 by omega),Bs_o8 _ (show 48+cur % 10<256 by omega),unB_Bs,awp_skip,awp_reg,awp_seq,awp_cond,awp_block,arun_nil,arun_op,aq_some,isB_t,thenQ_n,inQ_n,astep,stV,stN,aval,anew,aElems,frzS,Bs_len,aBin,aInt,aStr,arI,aToInt,aToStr,pureB,szOk,view,St.ev,lk,St.put,lentO,renObj,posOf,lenOk_1,↓reduceIte,reduceEqDiff,true_and,List.length_cons,List.length_nil,reduceAdd,List.nil_append,List.cons_append,Option.map,mapO,ren,kp,List.range,List.range.loop,List.getElem?_cons_zero,reduceCtorEq,eq_self,and_self]
    refine ⟨by omega,by (first | omega | (simp only [inI]; omega)),by (first | omega | (simp only [lenOk]; omega)),⟨by omega,by (first | omega | (simp only [inI]; omega))⟩,(cur / 10,o8 (48+cur % 10) :: s),⟨?_,by simp only; omega⟩,by simp only; omega,rfl⟩
    rw [decP_step (by omega),List.append_assoc] at ha
    exact ha
 ·cases hs
open Go.Lib (index hasPrefix cut indexAny itoa)
theorem at8_eq {l m:List UInt8} {i j:Nat} (hi:i<l.length) (hj:j<m.length):(at8 l i=at8 m j)↔l[i]=m[j]:=by
 unfold at8
 rw [List.getD_eq_getElem?_getD,List.getD_eq_getElem?_getD,List.getElem?_eq_getElem hi,List.getElem?_eq_getElem hj]
 simp only [Option.getD_some]
 constructor
 ·intro h; exact UInt8.toNat_inj.1 (by omega)
 ·intro h; rw [h]
theorem at8_lit {l:List UInt8} {i:Nat} (hi:i<l.length):at8 l i=((l[i]).toNat:Int):=by
 unfold at8
 rw [List.getD_eq_getElem?_getD,List.getElem?_eq_getElem hi]; rfl
theorem take_mem {l:List UInt8} {i:Nat} {x:UInt8} (hi:i<l.length):x∈l.take (i+1)↔x∈l.take i∨x=l[i]:=by
 rw [List.take_add_one,List.getElem?_eq_getElem hi,Option.toList_some,List.mem_append,List.mem_singleton]
def rhasS:Spec:=fun xs hp=>match xs,hp with
 | [.str s,.str p],[]=>some ⟨.bool (hasL p s),[],s.length≤1000000000000∧p.length≤1000000000000⟩
 | _,_=>none
theorem rhas_ok:FnOk Tryz.prog 57 rhasS:=by
 refine fn_slim2 Tryz.func57 s_rhas (Φ:=phiL []) phi_nil ?_
 intro xs hp r hs hp'
 unfold rhasS at hs
 split at hs
 ·injection hs with hs; subst hs
  rename_i s p
  obtain ⟨p1,p2⟩:=hp'
  refine ⟨len_le (by kernel_rfl),?_⟩
  simp only [c_rhas,go_sem,reduceDiv,reduceMod,reduceAdd]
  refine loop2P [] [0,1,5] [] (fun i:Nat=>⟨[(0,.str s),(1,.str p),(5,.int .i64 (i:Int))],[]⟩) (fun i=>i≤s.length∧∀ x∈s.take i,x ∉ p) (fun i=>s.length - i) 0 rfl ⟨by omega,by simp⟩ ⟨rfl,rfl⟩ (fun i hi R hR=>?_)
  obtain ⟨i1,i2⟩:=hi
  by_cases hil:i<s.length
  ·have c1:decide ((i:Int)<(s.length:Int))=true:=decide_eq_true (by omega)
   simp only [b_rhas_1,c1,go_sem,reduceDiv,reduceMod,↓reduceIte]
   refine loop2P [] [0,1,5,6] [] (fun k:Nat=>⟨[(0,.str s),(1,.str p),(5,.int .i64 (i:Int)),(6,.int .i64 (k:Int))],[]⟩) (fun k=>k≤p.length∧s[i] ∉ p.take k) (fun k=>p.length - k) 0 rfl ⟨by omega,by simp⟩ ⟨rfl,rfl⟩ (fun k hk R2 hR2=>?_)
   obtain ⟨k1,k2⟩:=hk
   by_cases hkl:k<p.length
   ·have c2:decide ((k:Int)<(p.length:Int))=true:=decide_eq_true (by omega)
    have hh:=at8_eq hil hkl
    simp only [b_rhas_0,r_rhas,c2,Int.toNat_natCast,go_sem,reduceDiv,reduceMod,↓reduceIte,reduceCtorEq]
    refine ⟨⟨by omega,by omega⟩,⟨by omega,by omega⟩,fun h=>?_,fun h=>⟨⟨by omega,by omega⟩,hR2 _ (k+1) ⟨by omega,fun hm=>?_⟩ (by omega) rfl⟩⟩
    ·have h:=hh.1 (of_decide_eq_true h)
     have:hasL p s=true:=(hasL_iff p s).2 ⟨s[i],List.getElem_mem _,by rw [h]; exact List.getElem_mem _⟩
     rw [this]
    ·have h:=of_decide_eq_false h
     rcases (take_mem hkl).1 hm with hm | hm
     ·exact k2 hm
     ·exact h (hh.2 hm)
   ·have c2:decide ((k:Int)<(p.length:Int))=false:=decide_eq_false (by omega)
    have e:p.take k=p:=List.take_of_length_le (by omega)
    rw [e] at k2
    simp only [b_rhas_0,t_rhas_0,r_rhas,c2,go_sem,reduceDiv,reduceMod,↓reduceIte]
    refine ⟨⟨by omega,by omega⟩,hR _ (i+1) ⟨by omega,fun x hx=>?_⟩ (by omega) rfl⟩
    rcases (take_mem hil).1 hx with hx | rfl
    ·exact i2 x hx
    ·exact k2
  ·have c1:decide ((i:Int)<(s.length:Int))=false:=decide_eq_false (by omega)
   have e:s.take i=s:=List.take_of_length_le (by omega)
   rw [e] at i2
   have:hasL p s=false:=by
    rw [Bool.eq_false_iff]; intro h
    obtain ⟨x,hx,hxp⟩:=(hasL_iff p s).1 h
    exact i2 x hx hxp
   rw [this]
   simp only [b_rhas_1,t_rhas_1,r_rhas,c1,go_sem,reduceDiv,reduceMod,↓reduceIte]
 ·cases hs
def rpersonS:Spec:=fun xs hp=>match xs,hp with
 | [.agg [(1,.str n),(1,.str m),(1,.int .i64 t),(1,.str z)]],[]=>some ⟨.bool (rightW ⟨n,m,t,z⟩),[],n.length≤1000000000000∧m.length≤1000000000000∧z.length≤1000000000000⟩
 | _,_=>none
set_option maxHeartbeats 2000000 in
theorem rperson_ok:FnOk Tryz.prog 33 rpersonS:=by
 refine fn_slim2 Tryz.func33 s_rperson (Φ:=phiL [(57,[],rhasS)]) (phi_cons rhas_ok (by kernel_rfl) phi_nil) ?_
 intro xs hp r hs hp'
 unfold rpersonS at hs
 split at hs
 ·injection hs with hs; subst hs
  rename_i n m t z
  obtain ⟨p1,p2,p3⟩:=hp'
  refine ⟨len_le (by kernel_rfl),?_⟩
  have hr:rightW ⟨n,m,t,z⟩=(!(hasL [60,62,10] n || hasL [60,62,10] m) && decide (0≤t) && decide (t<4611686018427387904) && zonB z):=by unfold rightW; rw [hasL_app]
  rw [hr]
  have no:∀ b:Bool,b=false→(retQ2 r_rperson 0 (⟨.bool b,[],True⟩:Ret))=(retQ2 r_rperson 0 (⟨.bool false,[],True⟩:Ret)):=fun b h=>by rw [h]
  cases h1:hasL [60,62,10] n with
  | true =>
   simp only [c_rperson,r_rperson,rhasS,h1,Bool.true_or,Bool.not_true,Bool.false_and,go_sem,reduceDiv,reduceMod,↓reduceIte,reduceAdd,reduceLeDiff]
   exact p1
  | false =>
  cases h2:hasL [60,62,10] m with
  | true =>
   simp only [c_rperson,r_rperson,rhasS,h1,h2,Bool.or_true,Bool.not_true,Bool.false_and,go_sem,reduceDiv,reduceMod,↓reduceIte,reduceSub,reduceAdd,reduceLeDiff,reduceCtorEq]
   exact ⟨p1,p2⟩
  | false =>
  by_cases h3:t<0
  ·have d3:decide (t<0)=true:=decide_eq_true h3
   have d4:decide (0≤t)=false:=decide_eq_false (by omega)
   simp only [c_rperson,r_rperson,rhasS,h1,h2,d3,d4,Bool.and_false,Bool.false_and,go_sem,reduceDiv,reduceMod,↓reduceIte,reduceSub,reduceAdd,reduceLeDiff,reduceCtorEq]
   exact ⟨p1,p2⟩
  ·have d3:decide (t<0)=false:=decide_eq_false h3
   have d4:decide (0≤t)=true:=decide_eq_true (by omega)
   by_cases h4:4611686018427387904≤t
   ·have d5:decide (4611686018427387904≤t)=true:=decide_eq_true h4
    have d6:decide (t<4611686018427387904)=false:=decide_eq_false (by omega)
    simp only [c_rperson,r_rperson,rhasS,h1,h2,d3,d4,d5,d6,Bool.and_false,Bool.false_and,go_sem,reduceDiv,reduceMod,↓reduceIte,reduceSub,reduceAdd,reduceLeDiff,reduceCtorEq]
    exact ⟨p1,p2⟩
   ·have d5:decide (4611686018427387904≤t)=false:=decide_eq_false h4
    have d6:decide (t<4611686018427387904)=true:=decide_eq_true (by omega)
    unfold zonB
    by_cases h5:z.length=5
    ·have d7:decide ((z.length:Int)=5)=true:=decide_eq_true (by omega)
     have e5:decide (z.length=5)=true:=decide_eq_true h5
     have e1:decide (at8 z 0=43)=decide ((z.getD 0 0).toNat=43):=by unfold at8; rw [Bool.eq_iff_iff]; simp; omega
     have e2:decide (at8 z 0=45)=decide ((z.getD 0 0).toNat=45):=by unfold at8; rw [Bool.eq_iff_iff]; simp; omega
     have dg:∀ i (h:i<z.length),digB z[i]=true↔¬ (at8 z i<48)∧¬ (57<at8 z i):=by
      intro i h
      rw [at8_lit h]
      unfold digB
      simp; omega
     have allT:(∀ i (h:i<z.length),1≤i→digB z[i]=true)→(z.drop 1).all digB=true:=by
      intro h
      rw [List.all_eq_true]
      intro x hx
      obtain ⟨j,hj,rfl⟩:=List.getElem_of_mem hx
      rw [List.getElem_drop]
      exact h _ _ (by omega)
     have allF:∀ i (h:i<z.length),1≤i→digB z[i]=false→(z.drop 1).all digB=false:=by
      intro i h h1 hf
      rw [List.all_eq_false]
      refine ⟨z[i],?_,by rw [hf]; simp⟩
      have:z[i]=(z.drop 1)[i - 1]'(by rw [List.length_drop]; omega):=by rw [List.getElem_drop]; congr 1; omega
      rw [this]; exact List.getElem_mem _
     cases h6:decide ((z.getD 0 0).toNat=43) <;> cases h7:decide ((z.getD 0 0).toNat=45) <;> rw [h6] at e1 <;> rw [h7] at e2
     ·simp only [c_rperson,r_rperson,rhasS,h1,h2,d3,d4,d5,d6,e1,e2,h5,Bool.and_false,Bool.false_and,Bool.or_self,go_sem,reduceDiv,reduceMod,↓reduceIte,reduceSub,reduceAdd,reduceLeDiff,reduceCtorEq,Int.reduceLT,Int.reduceLE,Int.reduceToNat]
      exact ⟨p1,p2⟩
     all_goals (
      simp only [c_rperson,rhasS,h1,h2,d3,d4,d5,d6,e1,e2,h5,Bool.or_self,Bool.true_or,Bool.or_true,Bool.not_false,Bool.true_and,go_sem,reduceDiv,reduceMod,↓reduceIte,reduceSub,reduceAdd,reduceLeDiff,reduceCtorEq,Int.reduceLT,Int.reduceLE,Int.reduceToNat]
      refine ⟨p1,p2,?_⟩
      refine loop2P [] [1,3] [0] (fun i:Nat=>⟨[(1,.ref 0 0 0),(3,.int .i64 (i:Int))],[.cells 25 [(1,.str n),(1,.str m),(1,.int .i64 t),(1,.str z)]]⟩) (fun i=>1≤i∧i≤5∧∀ j (h:j<z.length),1≤j→j<i→digB z[j]=true) (fun i=>5 - i) 1 rfl ⟨by omega,by omega,fun j h h1 h2=>by omega⟩ ⟨rfl,by rfl⟩ (fun i hi R hR=>?_)
      obtain ⟨i1,i2,i3⟩:=hi
      by_cases hil:i<5
      ·have c1:decide ((i:Int)<5)=true:=decide_eq_true (by omega)
       have hd:=dg i (by omega)
       cases g1:decide (at8 z i<48) with
       | true =>
        have hf:=allF i (by omega) i1 (by rw [Bool.eq_false_iff]; intro h; exact (hd.1 h).1 (of_decide_eq_true g1))
        rw [hf]
        simp only [b_rperson_0,r_rperson,c1,g1,Int.toNat_natCast,h5,go_sem,reduceDiv,reduceMod,↓reduceIte,reduceSub,reduceAdd,reduceLeDiff,reduceCtorEq]
        omega
       | false =>
        cases g2:decide (57<at8 z i) with
        | true =>
         have hf:=allF i (by omega) i1 (by rw [Bool.eq_false_iff]; intro h; exact (hd.1 h).2 (of_decide_eq_true g2))
         rw [hf]
         simp only [b_rperson_0,r_rperson,c1,g1,g2,Int.toNat_natCast,h5,go_sem,reduceDiv,reduceMod,↓reduceIte,reduceSub,reduceAdd,reduceLeDiff,reduceCtorEq]
         omega
        | false =>
         simp only [b_rperson_0,r_rperson,c1,g1,g2,Int.toNat_natCast,h5,go_sem,reduceDiv,reduceMod,↓reduceIte,reduceSub,reduceAdd,reduceLeDiff,reduceCtorEq]
         refine ⟨by omega,by omega,⟨by omega,by omega⟩,hR _ (i+1) ⟨by omega,by omega,fun j h j1 j2=>?_⟩ (by omega) rfl⟩
         rcases Nat.lt_or_ge j i with hj | hj
         ·exact i3 j h j1 hj
         ·have:j=i:=by omega
          subst this
          exact hd.2 ⟨of_decide_eq_false g1,of_decide_eq_false g2⟩
      ·have c1:decide ((i:Int)<5)=false:=decide_eq_false (by omega)
       rw [allT fun j h j1=>i3 j h j1 (by omega)]
       simp only [b_rperson_0,t_rperson_0,r_rperson,c1,go_sem,reduceDiv,reduceMod,↓reduceIte])
    ·have d7:decide ((z.length:Int)=5)=false:=decide_eq_false (by omega)
     have e5:decide (z.length=5)=false:=decide_eq_false h5
     simp only [c_rperson,r_rperson,rhasS,h1,h2,d3,d4,d5,d6,d7,e5,Bool.and_false,Bool.false_and,go_sem,reduceDiv,reduceMod,↓reduceIte,reduceSub,reduceAdd,reduceLeDiff,reduceCtorEq]
     exact ⟨p1,p2⟩
 ·cases hs
def rtextS:Spec:=fun xs hp=>match xs,hp with
 | [.agg [(1,.str n),(1,.str m),(1,.int .i64 t),(1,.str z)]],[]=>some ⟨.str (textW ⟨n,m,t,z⟩),[],n.length≤1000000000000∧m.length≤1000000000000∧z.length≤1000000000000∧inI t⟩
 | _,_=>none
theorem rtext_ok:FnOk Tryz.prog 42 rtextS:=by
 refine fn_slim2 Tryz.func42 s_rtext (Φ:=phiL [(44,[],itoaS)]) (phi_cons rdec_ok (by kernel_rfl) phi_nil) ?_
 intro xs hp r hs hp'
 unfold rtextS at hs
 split at hs
 ·injection hs with hs; subst hs
  rename_i n m t z
  obtain ⟨p1,p2,p3,p4⟩:=hp'
  refine ⟨len_le (by kernel_rfl),?_⟩
  have hi:=Lib.itoa_length_le t p4.1 p4.2
  simp only [c_rtext,r_rtext,itoaS,textW,go_sem,reduceDiv,reduceMod,↓reduceIte,reduceSub,Nat.reduceLT,reduceAdd,reduceLeDiff,reduceCtorEq]
  simp only [List.length_append,List.length_cons,List.length_nil]
  repeat' apply And.intro
  all_goals first | omega | rfl | exact p4 | exact p4.1 | exact p4.2 | (first | omega | (simp only [lenOk]; omega)) | (simp; done) | skip
 ·cases hs
def rvalueS:Spec:=fun xs hp=>match xs,hp with
 | [.str s],[]=>some ⟨.str (subst1 10 [10,32] s),[],s.length≤1000000000⟩
 | _,_=>none
theorem subst1_take {c:UInt8} {new s:List UInt8} {i:Nat} (h:i<s.length):subst1 c new (s.take (i+1))=subst1 c new (s.take i) ++ (if s[i]=c then new else [s[i]]):=by
 rw [List.take_add_one,List.getElem?_eq_getElem h,Option.toList_some,subst1_app]
 simp [subst1]
theorem u8_10 {b:UInt8}:((b.toNat:Int)=10)↔b=10 :=
 ⟨fun h=>UInt8.toNat_inj.1 (by
  have h1:b.toNat=10:=by omega
  rw [h1]; rfl),fun h=>by rw [h]; rfl⟩
theorem rvalue_ok:FnOk Tryz.prog 43 rvalueS:=by
 refine fn_slim2 Tryz.func43 s_rvalue (Φ:=phiL []) phi_nil ?_
 intro xs hp r hs hp'
 unfold rvalueS at hs
 split at hs
 ·injection hs with hs; subst hs
  rename_i s
  have p1:s.length≤1000000000:=hp'
  refine ⟨len_le (by kernel_rfl),?_⟩
  simp only [c_rvalue,go_sem,reduceDiv,reduceMod]
  refine loop2P [(3,5,1)] [0,3,4] [0] (fun q:Nat × Nat × List UInt8=>⟨[(0,.str s),(3,.own 0 q.2.1),(4,.int .i64 (q.1:Int))],[.row 5 1 q.2.1 (Bs q.2.2)]⟩) (fun q=>q.1≤s.length∧q.2.2=subst1 10 [10,32] (s.take q.1)∧q.2.2.length≤2 * q.1) (fun q=>s.length - q.1) (0,0,[]) rfl ⟨Nat.zero_le _,by simp [subst1],by simp⟩ ⟨rfl,by rfl⟩ (fun q hq R hR=>?_)
  obtain ⟨i,v,acc⟩:=q
  simp only at hq
  obtain ⟨i1,i2,i3⟩:=hq
  simp only at hR ⊢
  by_cases hil:i<s.length
  ·have c1:decide ((i:Int)<(s.length:Int))=true:=decide_eq_true (by omega)
   have hst:=subst1_take (c:=10) (new:=[10,32]) hil
   have ha:=at8_lit hil
   have hb1:∀ l:List UInt8,Bs l ++ [.int .u8 (((s[i]).toNat:Nat):Int)]=Bs (l ++ [s[i]]):=fun l=>Bs_push
   have hb2:∀ l:List UInt8,Bs l ++ [.int .u8 32]=Bs (l ++ [32]):=fun l=>Bs_push (u:=32)
   by_cases h10:s[i]=10
   ·have d:decide (((s[i]).toNat:Int)=10)=true:=decide_eq_true (by rw [h10]; rfl)
    rw [if_pos h10] at hst
    simp only [b_rvalue_0,c1,ha,d,hb1,hb2,Int.toNat_natCast,Bs_len,go_sem,reduceDiv,reduceMod,↓reduceIte,reduceAdd]
    refine ⟨⟨by omega,by omega⟩,⟨by (first | omega | (simp only [lenOk,List.length_append,List.length_cons,List.length_nil]; omega)),by (first | omega | (simp only [bytesOk,List.length_append,List.length_cons,List.length_nil]; omega))⟩,⟨by omega,by omega⟩,⟨by (first | omega | (simp only [lenOk,List.length_append,List.length_cons,List.length_nil]; omega)),by (first | omega | (simp only [bytesOk,List.length_append,List.length_cons,List.length_nil]; omega))⟩,⟨by omega,by omega⟩,hR _ (i+1,v+1+1,acc ++ [s[i]] ++ [32]) ⟨by simp only; omega,?_,?_⟩ (by simp only; omega) rfl⟩
    ·simp only; rw [hst,i2,h10,List.append_assoc]; rfl
    ·simp only [List.length_append,List.length_cons,List.length_nil]; omega
   ·have d:decide (((s[i]).toNat:Int)=10)=false:=decide_eq_false (fun h=>h10 (u8_10.1 h))
    rw [if_neg h10] at hst
    simp only [b_rvalue_0,c1,ha,d,hb1,Int.toNat_natCast,Bs_len,go_sem,reduceDiv,reduceMod,↓reduceIte,reduceAdd]
    refine ⟨⟨by omega,by omega⟩,⟨by (first | omega | (simp only [lenOk,List.length_append,List.length_cons,List.length_nil]; omega)),by (first | omega | (simp only [bytesOk,List.length_append,List.length_cons,List.length_nil]; omega))⟩,⟨by omega,by omega⟩,⟨by omega,by omega⟩,hR _ (i+1,v+1,acc ++ [s[i]]) ⟨by simp only; omega,?_,?_⟩ (by simp only; omega) rfl⟩
    ·simp only; rw [hst,i2]
    ·simp only [List.length_append,List.length_cons,List.length_nil]; omega
  ·have c1:decide ((i:Int)<(s.length:Int))=false:=decide_eq_false (by omega)
   have e:s.take i=s:=List.take_of_length_le (by omega)
   rw [e] at i2
   subst i2
   simp only [b_rvalue_0,t_rvalue_0,r_rvalue,c1,unB_Bs,go_sem,reduceDiv,reduceMod,↓reduceIte]
 ·cases hs
def rextraS:Spec:=fun xs hp=>match xs,hp with
 | [.agg [(1,.str k),(1,.str v)]],[]=>some ⟨.bool (extraB k),[],k.length≤1000000000000⟩
 | _,_=>none
theorem keyB_no {k:List UInt8} (h1:k≠[116,114,101,101]) (h2:k≠[112,97,114,101,110,116]) (h3:k≠[97,117,116,104,111,114]) (h4:k≠[99,111,109,109,105,116,116,101,114]):keyB k=false:=by
 rw [← keyB_eq]; simp [h1,h2,h3,h4]
theorem rextra_ok:FnOk Tryz.prog 32 rextraS:=by
 refine fn_slim2 Tryz.func32 s_rextra (Φ:=phiL [(57,[],rhasS)]) (phi_cons rhas_ok (by kernel_rfl) phi_nil) ?_
 intro xs hp r hs hp'
 unfold rextraS at hs
 split at hs
 ·injection hs with hs; subst hs
  rename_i k v
  have p1:k.length≤1000000000000:=hp'
  refine ⟨len_le (by kernel_rfl),?_⟩
  by_cases h0:k=[]
  ·subst h0
   simp only [c_rextra,r_rextra,decide_true,go_sem,reduceDiv,reduceMod,↓reduceIte,reduceAdd,reduceLeDiff]
   rfl
  ·have d0:decide (k=[])=false:=decide_eq_false h0
   have d0' : decide (k≠[])=true:=decide_eq_true h0
   unfold extraB
   rw [d0']
   cases hh:hasL [32,10] k with
   | true =>
    simp only [c_rextra,r_rextra,rhasS,d0,hh,Bool.not_true,Bool.and_false,Bool.false_and,go_sem,reduceDiv,reduceMod,↓reduceIte,reduceAdd,reduceLeDiff]
    exact p1
   | false =>
    by_cases h1:k=[116,114,101,101]
    ·have d1:decide (k=[116,114,101,101])=true:=decide_eq_true h1
     have e:keyB k=true:=by rw [h1]; rfl
     simp only [c_rextra,r_rextra,rhasS,d0,d1,hh,e,Bool.not_true,Bool.and_false,go_sem,reduceDiv,reduceMod,↓reduceIte,reduceAdd,reduceLeDiff]
     exact p1
    have d1:decide (k=[116,114,101,101])=false:=decide_eq_false h1
    by_cases h2:k=[112,97,114,101,110,116]
    ·have d2:decide (k=[112,97,114,101,110,116])=true:=decide_eq_true h2
     have e:keyB k=true:=by rw [h2]; rfl
     simp only [c_rextra,r_rextra,rhasS,d0,d1,d2,hh,e,Bool.not_true,Bool.and_false,go_sem,reduceDiv,reduceMod,↓reduceIte,reduceAdd,reduceLeDiff]
     exact p1
    have d2:decide (k=[112,97,114,101,110,116])=false:=decide_eq_false h2
    by_cases h3:k=[97,117,116,104,111,114]
    ·have d3:decide (k=[97,117,116,104,111,114])=true:=decide_eq_true h3
     have e:keyB k=true:=by rw [h3]; rfl
     simp only [c_rextra,r_rextra,rhasS,d0,d1,d2,d3,hh,e,Bool.not_true,Bool.and_false,go_sem,reduceDiv,reduceMod,↓reduceIte,reduceAdd,reduceLeDiff]
     exact p1
    have d3:decide (k=[97,117,116,104,111,114])=false:=decide_eq_false h3
    by_cases h4:k=[99,111,109,109,105,116,116,101,114]
    ·have d4:decide (k=[99,111,109,109,105,116,116,101,114])=true:=decide_eq_true h4
     have e:keyB k=true:=by rw [h4]; rfl
     simp only [c_rextra,r_rextra,rhasS,d0,d1,d2,d3,d4,hh,e,Bool.not_true,Bool.and_false,go_sem,reduceDiv,reduceMod,↓reduceIte,reduceAdd,reduceLeDiff]
     exact p1
    have d4:decide (k=[99,111,109,109,105,116,116,101,114])=false:=decide_eq_false h4
    have e:=keyB_no h1 h2 h3 h4
    simp only [c_rextra,r_rextra,rhasS,d0,d1,d2,d3,d4,hh,e,Bool.not_false,Bool.and_true,go_sem,reduceDiv,reduceMod,↓reduceIte,reduceAdd,reduceLeDiff]
    exact p1
 ·cases hs
def rrightS11:Spec:=fun xs hp=>match xs,hp with
 | [.agg [(20,.blob t),(1,.sl kq ps),(1,.str an),(1,.str am),(1,.int .i64 at'),(1,.str az),(1,.str cn),(1,.str cm),(1,.int .i64 ct),(1,.str cz),(1,.sl ke es),(1,.str m)]],[] =>
  some ⟨.bool (rightC ⟨unV t,ps.map unId,⟨an,am,at',az⟩,⟨cn,cm,ct,cz⟩,es.map unEx,m⟩),[],es=(es.map unEx).map exV∧(ke=2∨es=[])∧es.length≤1000000∧(∀ x∈es.map unEx,x.1.length≤1000000000000)∧an.length+am.length+az.length≤1000000000∧cn.length+cm.length+cz.length≤1000000000⟩
 | _,_=>none
theorem rright11_ok:FnOk Tryz.prog 12 rrightS11:=by
 refine fn_slim2 Tryz.func12 s_rright11 (Φ:=phiL [(32,[],rextraS),(33,[],rpersonS)]) (phi_cons rextra_ok (by kernel_rfl) (phi_cons rperson_ok (by kernel_rfl) phi_nil)) ?_
 intro xs hp r hs hp'
 unfold rrightS11 at hs
 split at hs
 ·injection hs with hs; subst hs
  rename_i t kq ps an am at' az cn cm ct cz ke es m
  obtain ⟨q1,q2,q3,q4,q5,q6⟩:=hp'
  generalize unV t=t1 at *
  generalize ps.map unId=ps1 at *
  generalize es.map unEx=es at *
  subst q1
  rw [List.length_map] at q3
  refine ⟨len_le (by kernel_rfl),?_⟩
  simp only [c_rright11,go_sem,reduceDiv,reduceMod,↓reduceIte,reduceAdd]
  refine loop2P [] [1,3] [0] (fun i:Nat=>⟨[(1,.ref 0 0 0),(3,.int .i64 (i:Int))],[.cells 28 [(20,.blob t),(1,.sl kq ps),(1,.str an),(1,.str am),(1,.int .i64 at'),(1,.str az),(1,.str cn),(1,.str cm),(1,.int .i64 ct),(1,.str cz),(1,.sl ke (es.map exV)),(1,.str m)]]⟩) (fun i=>i≤es.length∧∀ x∈es.take i,badE x=false) (fun i=>es.length - i) 0 rfl ⟨by omega,by simp⟩ ⟨rfl,by rfl⟩ (fun i hi R hR=>?_)
  obtain ⟨i1,i2⟩:=hi
  by_cases hil:i<es.length
  ·have c1:decide ((i:Int)<(es.length:Int))=true:=decide_eq_true (by omega)
   have hk:ke=2:=q2.resolve_right (by intro h; have:=congrArg List.length h; simp at this; rw [this] at hil; simp at hil)
   subst hk
   have hget:=getD_map exV es ([],[]) (.agg [(1,(.str [])),(1,(.str []))]) hil
   have hga:es.getD i ([],[])=es[i]:=by simp [List.getD_eq_getElem?_getD,List.getElem?_eq_getElem hil]
   have hlen:=q4 es[i] (List.getElem_mem _)
   cases hx:extraB es[i].1 with
   | false =>
    have hb:es.any badE=true:=List.any_eq_true.2 ⟨es[i],List.getElem_mem _,by unfold badE; rw [hx]; rfl⟩
    rw [rightC_e (c:=⟨t1,ps1,⟨an,am,at',az⟩,⟨cn,cm,ct,cz⟩,es,m⟩) hb]
    simp only [b_rright11_0,r_rright11,rextraS,c1,hget,hga,exV,hx,Int.toNat_natCast,go_sem,reduceDiv,reduceMod,↓reduceIte,reduceSub,reduceAdd,reduceLeDiff,reduceCtorEq]
    exact ⟨⟨by omega,by omega⟩,hlen⟩
   | true =>
    simp only [b_rright11_0,r_rright11,rextraS,c1,hget,hga,exV,hx,Int.toNat_natCast,go_sem,reduceDiv,reduceMod,↓reduceIte,reduceSub,reduceAdd,reduceLeDiff,reduceCtorEq]
    refine ⟨⟨by omega,by omega⟩,hlen,⟨by omega,by omega⟩,hR _ (i+1) ⟨by omega,fun x hx2=>?_⟩ (by omega) rfl⟩
    rw [List.take_add_one,List.getElem?_eq_getElem hil,Option.toList_some,List.mem_append,List.mem_singleton] at hx2
    rcases hx2 with hx2 | rfl
    ·exact i2 x hx2
    ·unfold badE; rw [hx]; rfl
  ·have c1:decide ((i:Int)<(es.length:Int))=false:=decide_eq_false (by omega)
   have e:es.take i=es:=List.take_of_length_le (by omega)
   rw [e] at i2
   have hb:es.any badE=false:=by
    rw [List.any_eq_false]; intro x hx; rw [i2 x hx]; simp
   unfold rightC
   simp only [hb,Bool.not_false,Bool.and_true]
   cases h1:rightW ⟨an,am,at',az⟩
   all_goals (
    simp only [b_rright11_0,t_rright11_0,r_rright11,rpersonS,c1,h1,Bool.false_and,Bool.true_and,go_sem,reduceDiv,reduceMod,↓reduceIte,reduceEqDiff,reduceSub,reduceAdd,reduceLeDiff,reduceCtorEq]
    repeat' apply And.intro
    all_goals first | omega | rfl | trivial)
 ·cases hs
def rprnS:Spec:=fun xs hp=>match xs,hp with
 | [.agg [(20,.blob t),(1,.sl kq ps),(1,.str an),(1,.str am),(1,.int .i64 at'),(1,.str az),(1,.str cn),(1,.str cm),(1,.int .i64 ct),(1,.str cz),(1,.sl ke es),(1,.str m)]],[] =>
  some ⟨.str (bodyC ⟨unV t,ps.map unId,⟨an,am,at',az⟩,⟨cn,cm,ct,cz⟩,es.map unEx,m⟩),[],t=(unV t).map U∧ps=(ps.map unId).map idAV∧es=(es.map unEx).map exV∧(kq=20∨ps=[])∧(ke=2∨es=[])∧sizeOkC ⟨unV t,ps.map unId,⟨an,am,at',az⟩,⟨cn,cm,ct,cz⟩,es.map unEx,m⟩∧inI at' ∧ inI ct⟩
 | _,_=>none
set_option maxHeartbeats 2000000 in
theorem rprn_ok:FnOk Tryz.prog 24 rprnS:=by
 refine fn_slim2 Tryz.func24 s_rprn (Φ:=phiL [(41,[],rhexS),(42,[],rtextS),(43,[],rvalueS)]) (phi_cons rhex_ok (by kernel_rfl) (phi_cons rtext_ok (by kernel_rfl) (phi_cons rvalue_ok (by kernel_rfl) phi_nil))) ?_
 intro xs hp r hs hp'
 unfold rprnS at hs
 split at hs
 ·injection hs with hs; subst hs
  rename_i t kq ps an am at' az cn cm ct cz ke es m
  obtain ⟨q1,q2,q3,q4,q5,q6,q7,q8⟩:=hp'
  generalize unV t=t at *
  subst q1
  generalize ps.map unId=ps at *
  subst q2
  generalize es.map unEx=es at *
  subst q3
  obtain ⟨z1,z2,z3,z0,z4,z5,z6,z7⟩:=q6
  simp only at z0 z1 z2 z3 z4 z5 z6 z7
  refine ⟨len_le (by kernel_rfl),?_⟩
  have hh:=hexL_length t
  unfold bodyC at z1
  simp only at z1
  unfold printC at z1
  simp only [List.length_append] at z1
  have hhc:(headC t).length=6+(hexL t).length:=by simp only [headC,List.length_append,List.length_cons,List.length_nil]; omega
  simp only [c_rprn,rhexS,unV_U,hexI_eq,go_sem,reduceDiv,reduceMod,↓reduceIte,reduceAdd]
  refine ⟨z2,by (first | omega | (simp only [lenOk]; omega)),by (first | omega | (simp only [lenOk]; omega)),?_⟩
  refine loop2P [] [1,3,4] [0] (fun q:Nat × List UInt8=>⟨[(1,.ref 0 0 0),(3,.str q.2),(4,.int .i64 (q.1:Int))],
   [.cells 28 [(20,.blob (t.map U)),(1,.sl kq (ps.map idAV)),(1,.str an),(1,.str am),(1,.int .i64 at'),(1,.str az),(1,.str cn),(1,.str cm),(1,.int .i64 ct),(1,.str cz),(1,.sl ke (es.map exV)),(1,.str m)]]⟩)
   (fun q=>q.1≤ps.length∧q.2=headC t ++ (ps.take q.1).flatMap parL) (fun q=>ps.length - q.1) (0,headC t) rfl ⟨Nat.zero_le _,by simp⟩ ⟨rfl,by rfl⟩ (fun q hq R hR=>?_)
  obtain ⟨i,acc⟩:=q
  simp only at hq
  obtain ⟨hi,rfl⟩:=hq
  simp only at hi hR ⊢
  have hle:=flatMap_take_le parL ps i
  by_cases hil:i<ps.length
  ·have c1:decide ((i:Int)<(ps.length:Int))=true:=decide_eq_true (by omega)
   have hk:kq=20:=q4.resolve_right (by intro h; have:=congrArg List.length h; simp at this; rw [this] at hil; simp at hil)
   subst hk
   have hget:=getD_map idAV ps [] (.blob (List.replicate 20 (.int .u8 0))) hil
   have hga:ps.getD i []=ps[i]:=by simp [List.getD_eq_getElem?_getD,List.getElem?_eq_getElem hil]
   have hlen:=z3 ps[i] (List.getElem_mem _)
   have hhx:=hexL_length ps[i]
   have hle2:=flatMap_take_le parL ps (i+1)
   rw [← flatMap_take parL ps hil,List.length_append] at hle2
   have hpl:(parL ps[i]).length=8+(hexL ps[i]).length:=by simp only [parL,List.length_append,List.length_cons,List.length_nil]; omega
   simp only [b_rprn_0,rhexS,unV_U,hexI_eq,c1,hget,hga,idAV,Int.toNat_natCast,List.length_map,hlen,go_sem,reduceDiv,reduceMod,↓reduceIte,reduceSub,reduceAdd,reduceCtorEq]
   refine ⟨by (first | omega | (simp only [lenOk,List.length_append]; omega)),⟨by omega,by omega⟩,by (first | omega | (simp only [lenOk,List.length_append,List.length_cons,List.length_nil]; omega)),by (first | omega | (simp only [lenOk,List.length_append,List.length_cons,List.length_nil]; omega)),⟨by omega,by omega⟩,hR _ (i+1,headC t ++ (ps.take (i+1)).flatMap parL) ⟨by simp only; omega,rfl⟩ (by simp only; omega) ?_⟩
   simp only
   have e:headC t ++ (ps.take (i+1)).flatMap parL=headC t ++ (ps.take i).flatMap parL ++ [112,97,114,101,110,116,32] ++ hexL ps[i] ++ [10]:=by
    rw [← flatMap_take parL ps hil]; simp [parL]
   rw [e]
   rfl
  ·have c1:decide ((i:Int)<(ps.length:Int))=false:=decide_eq_false (by omega)
   obtain rfl:i=ps.length:=by omega
   rw [List.take_length]
   have hmc:(midC (textW ⟨an,am,at',az⟩) (textW ⟨cn,cm,ct,cz⟩)).length=19+(textW ⟨an,am,at',az⟩).length+(textW ⟨cn,cm,ct,cz⟩).length:=by simp only [midC,List.length_append,List.length_cons,List.length_nil]; omega
   simp only [b_rprn_0,t_rprn_1,rtextS,c1,go_sem,reduceDiv,reduceMod,↓reduceIte,reduceEqDiff,reduceSub,Nat.reduceLT,reduceAdd,reduceLeDiff,reduceCtorEq]
   generalize ga:textW ⟨an,am,at',az⟩=a at *
   generalize gb:textW ⟨cn,cm,ct,cz⟩=b at *
   refine ⟨by (first | omega | (simp only [lenOk,List.length_append]; omega)),⟨by omega,by omega,by omega,q7⟩,by (first | omega | (simp only [lenOk,List.length_append,List.length_cons,List.length_nil]; omega)),by (first | omega | (simp only [lenOk,List.length_append,List.length_cons,List.length_nil]; omega)),by (first | omega | (simp only [lenOk,List.length_append,List.length_cons,List.length_nil]; omega)),⟨by omega,by omega,by omega,q8⟩,by (first | omega | (simp only [lenOk,List.length_append,List.length_cons,List.length_nil]; omega)),by (first | omega | (simp only [lenOk,List.length_append,List.length_cons,List.length_nil]; omega)),?_⟩
   clear hR R
   have eM:headC t ++ ps.flatMap parL ++ [97,117,116,104,111,114,32] ++ a ++ [10] ++ [99,111,109,109,105,116,116,101,114,32] ++ b ++ [10]=headC t ++ ps.flatMap parL ++ midC a b:=by simp [midC]
   rw [eM]
   refine loop2P [] [1,3,5] [0] (fun q:Nat × List UInt8=>⟨[(1,.ref 0 0 0),(3,.str q.2),(5,.int .i64 (q.1:Int))],
    [.cells 28 [(20,.blob (t.map U)),(1,.sl kq (ps.map idAV)),(1,.str an),(1,.str am),(1,.int .i64 at'),(1,.str az),(1,.str cn),(1,.str cm),(1,.int .i64 ct),(1,.str cz),(1,.sl ke (es.map exV)),(1,.str m)]]⟩)
    (fun q=>q.1≤es.length∧q.2=headC t ++ ps.flatMap parL ++ midC a b ++ (es.take q.1).flatMap exL) (fun q=>es.length - q.1) (0,headC t ++ ps.flatMap parL ++ midC a b) (by rfl) ⟨Nat.zero_le _,by simp⟩ ⟨rfl,by rfl⟩ (fun q hq R hR=>?_)
   obtain ⟨j,acc⟩:=q
   simp only at hq
   obtain ⟨hj,rfl⟩:=hq
   simp only at hj hR ⊢
   have hle:=flatMap_take_le exL es j
   by_cases hjl:j<es.length
   ·have c1:decide ((j:Int)<(es.length:Int))=true:=decide_eq_true (by omega)
    have hk:ke=2:=q5.resolve_right (by intro h; have:=congrArg List.length h; simp at this; rw [this] at hjl; simp at hjl)
    subst hk
    have hget:=getD_map exV es ([],[]) (.agg [(1,(.str [])),(1,(.str []))]) hjl
    have hga:es.getD j ([],[])=es[j]:=by simp [List.getD_eq_getElem?_getD,List.getElem?_eq_getElem hjl]
    obtain ⟨l1,l2⟩:=z5 es[j] (List.getElem_mem _)
    have hle2:=flatMap_take_le exL es (j+1)
    rw [← flatMap_take exL es hjl,List.length_append] at hle2
    have hpl:(exL es[j]).length=es[j].1.length+(subst1 10 [10,32] es[j].2).length+2:=by simp only [exL,List.length_append,List.length_cons,List.length_nil]; omega
    simp only [b_rprn_1,rvalueS,c1,hget,hga,exV,Int.toNat_natCast,go_sem,reduceDiv,reduceMod,↓reduceIte,reduceEqDiff,reduceSub,Nat.reduceLT,reduceAdd,reduceLeDiff,reduceCtorEq]
    refine ⟨⟨by omega,by omega⟩,by (first | omega | (simp only [lenOk,List.length_append]; omega)),by (first | omega | (simp only [lenOk,List.length_append]; omega)),⟨by omega,by omega⟩,by omega,by (first | omega | (simp only [lenOk,List.length_append,List.length_cons,List.length_nil]; omega)),by (first | omega | (simp only [lenOk,List.length_append,List.length_cons,List.length_nil]; omega)),⟨by omega,by omega⟩,hR _ (j+1,headC t ++ ps.flatMap parL ++ midC a b ++ (es.take (j+1)).flatMap exL) ⟨by simp only; omega,rfl⟩ (by simp only; omega) ?_⟩
    simp only
    have e:headC t ++ ps.flatMap parL ++ midC a b ++ (es.take (j+1)).flatMap exL=headC t ++ ps.flatMap parL ++ midC a b ++ (es.take j).flatMap exL ++ es[j].1 ++ [32] ++ subst1 10 [10,32] es[j].2 ++ [10]:=by
     rw [← flatMap_take exL es hjl]; simp [exL]
    rw [e]
    rfl
   ·have c1:decide ((j:Int)<(es.length:Int))=false:=decide_eq_false (by omega)
    obtain rfl:j=es.length:=by omega
    rw [List.take_length]
    simp only [b_rprn_1,t_rprn_0,r_rprn,c1,go_sem,reduceDiv,reduceMod,↓reduceIte,reduceSub,reduceAdd,reduceLeDiff,reduceCtorEq]
    refine ⟨by (first | omega | (simp only [lenOk,List.length_append]; omega)),by (first | omega | (simp only [lenOk,List.length_append,List.length_cons,List.length_nil]; omega)),?_⟩
    unfold bodyC printC
    simp only [ga,gb]
    simp
 ·cases hs
open Go.Lib (itoa decDigits)
theorem decN_f {s:List UInt8} (h:decV s=none):decN s=0:=by
 unfold decN; rw [sealF_eq]; simp only [h]; rfl
theorem dec_dig (n:Nat):∀ x∈decDigits n,48≤x.toNat∧x.toNat≤57:=by
 induction n using Nat.strongRecOn with
 | _ n ih =>
  intro x hx
  by_cases h:n<10
  ·rw [decD_small h,List.mem_singleton] at hx
   subst hx; rw [dc_toNat h]; omega
  ·rw [decD_big (by omega),List.mem_append,List.mem_singleton] at hx
   rcases hx with hx | rfl
   ·exact ih (n / 10) (by omega) x hx
   ·rw [dc_toNat (by omega)]; omega
theorem dec_no (n:Nat) (c:UInt8) (h:c.toNat<48):c ∉ decDigits n:=fun hm=>by have:=(dec_dig n c hm).1; omega
theorem itoa_dec {t:Int} (h:0≤t):itoa t=decDigits t.toNat:=by
 obtain ⟨n,rfl⟩:=Int.eq_ofNat_of_zero_le h
 rw [itoa_nat]; rfl
theorem decB_itoa {t:Int} (h0:0≤t) (h1:t<4611686018427387904):decB (itoa t)=true∧(decN (itoa t):Int)=t:=by
 rw [itoa_dec h0]
 obtain ⟨a,b⟩:=decBN_some (decV_dec t.toNat (by omega))
 exact ⟨a,by rw [b]; omega⟩
theorem itoa_decN {s:List UInt8} (h:decB s=true):itoa (decN s:Int)=s:=by
 rw [itoa_nat]; exact (decV_some (decB_t h)).1.symm
theorem decN_lt (s:List UInt8):decN s<4611686018427387904:=by
 cases h:decB s with
 | true=>exact (decV_some (decB_t h)).2
 | false=>rw [decN_f (decB_f h)]; omega
noncomputable def nmV (s:List UInt8):Int:=if s.head?=some 45 then -(decN (s.drop 1):Int) else (decN s:Int)
noncomputable def nmB (s:List UInt8):Bool:=if s.head?=some 45 then decB (s.drop 1) && !decide (decN (s.drop 1)=0) else decB s
theorem dec_head (n:Nat):(decDigits n).head?≠some 45:=by
 intro h
 cases hd:decDigits n with
 | nil=>rw [hd] at h; cases h
 | cons x l =>
  rw [hd] at h; injection h with h
  have:=dec_dig n x (by rw [hd]; exact List.mem_cons_self ..)
  rw [h] at this; exact absurd this.1 (by decide)
theorem nm_itoa {z:Int} (h0 : -4611686018427387904<z) (h1:z<4611686018427387904):nmB (itoa z)=true∧nmV (itoa z)=z:=by
 by_cases hz:z<0
 ·have e:itoa z=45 :: decDigits z.natAbs:=by unfold itoa; rw [if_pos hz]
  have e2:itoa (z.natAbs:Int)=decDigits z.natAbs:=by rw [itoa_nat]
  obtain ⟨a,b⟩:=decB_itoa (t:=(z.natAbs:Int)) (by omega) (by omega)
  rw [e2] at a b
  unfold nmB nmV
  have hh:(45 :: decDigits z.natAbs).head?=some 45:=rfl
  rw [e,if_pos hh,if_pos hh,List.drop_succ_cons,List.drop_zero,a]
  refine ⟨?_,by omega⟩
  rw [decide_eq_false (by omega)]; rfl
 ·obtain ⟨a,b⟩:=decB_itoa (t:=z) (by omega) h1
  have hh:(itoa z).head?≠some 45:=by rw [itoa_dec (by omega)]; exact dec_head _
  unfold nmB nmV
  rw [if_neg hh,if_neg hh]
  exact ⟨a,b⟩
theorem itoa_no (z:Int) (c:UInt8) (h:c.toNat<48) (h2:c≠45):c ∉ itoa z:=by
 unfold itoa
 split
 ·rw [List.mem_cons,not_or]; exact ⟨h2,dec_no _ _ h⟩
 ·exact dec_no _ _ h
end Go.Proofs.YtgaehhechonegaaGreatDoor
