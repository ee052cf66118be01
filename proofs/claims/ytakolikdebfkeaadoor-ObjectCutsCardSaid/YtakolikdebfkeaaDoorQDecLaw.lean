import Derived.Test.YtakolikdebfkeaaDoorQInfLaw7
import Derived.Test.YtakolikdebfkeaaDoorChecked
import Derived.Sort.Grow
import Derived.Test.YtakolikdebfkeaaDoorQAMS
import Derived.Test.YtakolikdebfkeaaDoorQParse
import Derived.Lib.Bytealg
import Derived.KernelRfl
import Derived.Test.YtakolikdebfkeaaDoorProg
import Derived.Shelf.Strings.Builder1
import Derived.Laws.EntriesVeiled
import Derived.Laws.BitsAll
import Derived.Test.YtakolikdebfkeaaDoorQShaSum
open Nat (reduceDiv reduceMod reduceSub reduceAdd reduceLeDiff reduceEqDiff)
set_option linter.all false
namespace Go.Proofs.YtakolikdebfkeaaDoor
open Go.RowKit
open Go.Lib (decDigits itoa atoiAll parseUint10 parseMag nDigits)
def dc (d:Nat):UInt8:=UInt8.ofNat (48+d)
theorem dc_toNat {d:Nat} (h:d<10):(dc d).toNat=48+d:=by simp [dc]; omega
theorem decD_small {n:Nat} (h:n<10):decDigits n=[dc n]:=by rw [decDigits,dif_pos h]; rfl
theorem decD_big {n:Nat} (h:10≤n):decDigits n=decDigits (n / 10) ++ [dc (n % 10)]:=by rw [decDigits,dif_neg (by omega)]; rfl
theorem decD_pow (k n:Nat) (h:n<10 ^ (k+1)):(decDigits n).length≤k+1:=by
 induction k generalizing n with
 | zero=>rw [decD_small (by simpa using h)]; simp
 | succ k ih =>
  by_cases h1:n<10
  ·rw [decD_small h1]; simp
  ·rw [decD_big (by omega)]
   have:=ih (n / 10) (by rw [Nat.pow_succ] at h; omega)
   simp; omega
theorem decD_head (n:Nat):∃ d r,decDigits n=dc d :: r∧d<10∧(0<n→0<d)∧(n<10→r=[]):=by
 induction n using Nat.strongRecOn with
 | _ n ih =>
  by_cases h:n<10
  ·exact ⟨n,[],decD_small h,h,fun h=>h,fun _=>rfl⟩
  ·obtain ⟨d,r,e,h1,h2,_⟩:=ih (n / 10) (by omega)
   refine ⟨d,r ++ [dc (n % 10)],by rw [decD_big (by omega),e]; rfl,h1,fun _=>h2 (by omega),fun hh=>absurd hh h⟩
theorem itoa_nat (n:Nat):itoa (n:Int)=decDigits n:=Lib.itoa_nonneg n
theorem pu_dec (n:Nat) (h:n<18446744073709551616) (r:List UInt8):parseUint10 0 (decDigits n ++ r)=parseUint10 n r:=by
 induction n using Nat.strongRecOn generalizing r with
 | _ n ih =>
  by_cases h1:n<10
  ·rw [decD_small h1]
   simp only [List.cons_append,List.nil_append,parseUint10,dc_toNat h1]
   rw [if_pos (by omega),if_neg (by omega),if_neg (by omega)]
   congr 1; omega
  ·rw [decD_big (by omega),List.append_assoc,ih (n / 10) (by omega) (by omega)]
   have hd:n % 10<10:=by omega
   simp only [List.cons_append,List.nil_append,parseUint10,dc_toNat hd]
   rw [if_pos (by omega),if_neg (by omega),if_neg (by omega)]
   congr 1; omega
theorem atoi_dec (n:Nat) (h:n<9223372036854775808):atoiAll (decDigits n)=.ok (n:Int):=by
 obtain ⟨d,r,e,h1,_,_⟩:=decD_head n
 have hp:parseMag (decDigits n)=.ok n:=by
  have:=pu_dec n (by omega) []
  rw [List.append_nil] at this
  unfold parseMag
  rw [if_neg (by rw [e]; simp),this]; rfl
 have ht:=dc_toNat h1
 rw [e] at hp ⊢
 unfold atoiAll
 simp only [ht]
 rw [if_neg (by omega),hp]
 simp only
 rw [if_neg (by omega),if_neg (by omega),if_neg (by omega)]
def decV (s:List UInt8):Option Nat :=
 match atoiAll s with
 | .ok v=>if 0≤v∧v<4611686018427387904∧itoa v=s then some v.toNat else none
 | _=>none
theorem decV_dec (n:Nat) (h:n<4611686018427387904):decV (decDigits n)=some n:=by
 unfold decV
 rw [atoi_dec n (by omega)]
 simp only
 rw [if_pos ⟨by omega,by omega,itoa_nat n⟩]; rfl
theorem decV_some {s:List UInt8} {n:Nat} (h:decV s=some n):s=decDigits n∧n<4611686018427387904:=by
 unfold decV at h
 split at h
 ·split at h
  ·rename_i v _ hc
   obtain ⟨h1,h2,h3⟩:=hc
   injection h with h
   subst h
   refine ⟨?_,by omega⟩
   rw [← h3,← itoa_nat,Int.toNat_of_nonneg h1]
  ·cases h
 ·cases h
open Go.Lib (itoa)
open Go.Sort (grow)
theorem tab_of {w : World} {S : Nat → Prop} (h : GlobOk w S) : Lib.TabIs Tryd.prog w "internal/strconv.uint64pow10" .u64 Lib.pow10Tab := by
 obtain ⟨_, us, t, fr, h2, _, h4⟩ := h.1 3 20 (.blob (Lib.pow10Tab.map fun z => .int .u64 z)) (by kernel_rfl)
 have h5 : us = Lib.pow10Tab.map fun z => Value.int .u64 z := by cases h2; rfl
 unfold Lib.TabIs World.var?
 rw [show Tryd.prog.globalNamed "internal/strconv.uint64pow10" = some 3 by kernel_rfl]
 simp only [Option.bind_some, h4, h5]
theorem below_grow (w:World) (k:Nat) (os:Array Obj):Below w.heap.size w (grow (w.drewN k) os):=by
 have e:∀ k,(w.drewN k).heap=w.heap∧(w.drewN k).os=w.os∧(w.drewN k).tape=w.tape∧(w.drewN k).output=w.output:=by
  intro k
  induction k with
  | zero=>exact ⟨rfl,rfl,rfl,rfl⟩
  | succ k ih=>simpa [World.drewN] using ih
 obtain ⟨e1,e2,e3,e4⟩:=e k
 refine ⟨by simp [grow,e2],by simp [grow,e3],by simp [grow,e4],by simp [grow,e1],fun j hj=>?_⟩
 simp [grow,e1,Array.getElem?_append_left hj]
def itoaS:Spec:=fun xs hp=>match xs,hp with
 | [.int .i64 n],[]=>some ⟨.str (itoa n),[],inI n⟩
 | _,_=>none
theorem itoa_ok:FnOk Tryd.prog 53 itoaS:=by
 refine fnok_of_calls fun xs0 hp r hs hp' => ?_
 unfold itoaS at hs
 split at hs
 ·rename_i n
  injection hs with hs; subst hs
  refine ⟨rfl,rfl,fun w S ρ args hS ha=>?_⟩
  obtain ⟨v,vs,rfl,hv,hr⟩:=ha.get _ _ rfl
  obtain rfl:=hr.none
  rw [hv.int]
  refine (Tryd.strconv_Itoa n hp'.1 hp'.2 w (tab_of ha.glob)).mono ?_
  rintro e w' ⟨rfl,k,os,rfl⟩
  exact ⟨_,rfl,below_grow w k os,fun _ _ _=>Vl.str' _⟩
 ·cases hs
open Go.Lib (decDigits itoa)
noncomputable def decP:Nat→List UInt8:=sealF fun n=>if n=0 then [] else decDigits n
theorem decP_0:decP 0=[]:=by unfold decP; rw [sealF_eq]; rfl
theorem decP_pos {n:Nat} (h:0<n):decP n=decDigits n:=by unfold decP; rw [sealF_eq]; exact if_neg (by omega)
theorem decP_step {n:Nat} (h:0<n):decP n=decP (n / 10) ++ [dc (n % 10)]:=by
 rw [decP_pos h]
 by_cases h1:n<10
 ·rw [decD_small h1,Nat.div_eq_of_lt h1,decP_0,Nat.mod_eq_of_lt h1]; rfl
 ·rw [decD_big (by omega),decP_pos (by omega)]
theorem decD_last (n:Nat):decP (n / 10) ++ [dc (n % 10)]=decDigits n:=by
 by_cases h:n=0
 ·subst h; rw [decP_0,decD_small (by omega)]; rfl
 ·rw [← decP_step (by omega),decP_pos (by omega)]
def b_rdec_0:ACode:=(.seq (.seq (.reg none [oS 7 (.mv (.t 0)),oS 8 (.bin .lss (.t 7) (.c (.int .i64 0)))]) (.cond (.t 8) .skip (.exit 0))) (.block 1 (.seq (.reg none [oS 9 (.mv (.t 0)),oS 10 (.bin .rem (.t 9) (.c (.int .i64 10))),oS 11 (.bin .sub (.c (.int .i64 48)) (.t 10)),oS 12 (.toInt .u8 (.t 11)),oS 13 (.buildSl 5 1 [(.t 12)]),oS 14 (.toStr (.t 13)),oS 15 (.mv (.t 3)),oS 16 (.bin .add (.t 14) (.t 15)),oS 3 (.mv (.t 16))]) (.reg none [oS 17 (.mv (.t 0)),oS 18 (.bin .quo (.t 17) (.c (.int .i64 10))),oS 0 (.mv (.t 18))]))))
def b_rdec_1:ACode:=(.seq (.seq (.reg none [oS 29 (.mv (.t 0)),oS 30 (.bin .gtr (.t 29) (.c (.int .i64 0)))]) (.cond (.t 30) .skip (.exit 2))) (.seq (.block 3 (.reg none [oS 33 (.mv (.t 0)),oS 34 (.bin .rem (.t 33) (.c (.int .i64 10))),oS 35 (.bin .add (.c (.int .i64 48)) (.t 34)),oS 36 (.toInt .u8 (.t 35)),oS 37 (.buildSl 5 1 [(.t 36)]),oS 38 (.toStr (.t 37)),oS 39 (.mv (.t 4)),oS 40 (.bin .add (.t 38) (.t 39)),oS 4 (.mv (.t 40))])) (.reg none [oS 31 (.mv (.t 0)),oS 32 (.bin .quo (.t 31) (.c (.int .i64 10))),oS 0 (.mv (.t 32))])))
def t_rdec_0:ACode:=(.seq (.reg none [oS 41 (.mv (.t 4)),oS 2 (.mv (.t 41))]) .ret)
def t_rdec_1:ACode:=(.seq (.reg none [oS 21 (.mv (.t 0)),oS 22 (.bin .rem (.t 21) (.c (.int .i64 10))),oS 23 (.bin .add (.c (.int .i64 48)) (.t 22)),oS 24 (.toInt .u8 (.t 23)),oS 25 (.buildSl 5 1 [(.t 24)]),oS 26 (.toStr (.t 25)),oS 4 (.mv (.t 26))]) (.seq (.seq (.reg none [oS 27 (.mv (.t 0)),oS 28 (.bin .quo (.t 27) (.c (.int .i64 10))),oS 0 (.mv (.t 28))]) (.block 2 (.loop b_rdec_1))) t_rdec_0))
def c_rdec:ACode:=(.seq (.reg none [oS 2 (.mv (.c (.str [])))]) (.seq (.seq (.reg none [oS 5 (.mv (.t 0)),oS 6 (.bin .lss (.t 5) (.c (.int .i64 0)))]) (.cond (.t 6) (.seq (.reg none [oS 3 (.mv (.c (.str [])))]) (.seq (.block 0 (.loop b_rdec_0)) (.seq (.reg none [oS 19 (.mv (.t 3)),oS 20 (.bin .add (.c (.str [45])) (.t 19)),oS 2 (.mv (.t 20))]) .ret))) .skip)) t_rdec_1))
def r_rdec:List ARes:=[(.t 2)]
theorem s_rdec:slimF Tryd.prog Tryd.f34=some (c_rdec,r_rdec):=by kernel_rfl
theorem rdec_ok:FnOk Tryd.prog 34 itoaS:=by
 refine fn_slim Tryd.func34 s_rdec (Φ:=phiL []) phi_nil ?_
 intro xs hp r hs hp'
 unfold itoaS at hs
 split at hs
 ·injection hs with hs; subst hs
  rename_i n
  refine ⟨len_le (by kernel_rfl),?_⟩
  have hn:inI n:=hp'
  obtain ⟨hn1,hn2⟩:=hn
  by_cases hneg:n<0
  ·have d1:decide (n<0)=true:=decide_eq_true hneg
   obtain ⟨m,rfl⟩:∃ m:Nat,n = -(m:Int):=⟨n.natAbs,by omega⟩
   have hit:itoa (-(m:Int))=45 :: decDigits m:=Lib.itoa_neg m (by omega)
   have hlen:=decD_pow 18 m (by omega)
   simp only [c_rdec,d1,awp_scope,noG_n,noG_r,noG_x,awp_skip,awp_reg,awp_draw,awp_seq,awp_cond,awp_block,awp_loop,awp_exit,awp_ret,arun_nil,arun_op,arun_gt,arun_gf,arunD_nil,arunD_op,arunD_gt,arunD_gf,aq_some,isB_t,isB_u,isB_f,isB_g,isB_p,isU_t,isU_b,ifB_t,ifB_f,thenQ_n,thenQ_x,thenQ_r,inQ_n,inQ_r,inQ_x,retQ_n,retQ_r,exD,AOp.isH,keepN,preB,avalP,pureR,astep,stV,stN,stE,stC,aval,anew,aElems,frzS,frzH,aeff,slots,aret,ares,aress,AV.isTup,eqFs,aEqS,ofC_i,ofC_b,ofC_s,ofC_U,getD_mapU,getD_Bs,Bs_len,Int.toNat_natCast,opd,pt,tk,subp,rdP,Rt.size,Rt.isAgg,Rt.zv,aBin,aInt,aStr,arI,aUn,aToInt,aToStr,aIdxS,zv,aIdxA,aIa,aIaA,aFa,aLd,aFld,pparts,aLo,aHi,cutL,aSlS,aSl,aExt,aNck,aNilc,AV.isStr,aLen,AV.one,AV.multi,pureB,szOk,psz,drp,spl,aEqB,aEqA,aMm,aMkfn,aMkif,aBuild,toV,aBuildA,wrP,unparts,view,nilS,St.ev,lk,St.put,St.pin,St.pinV,acall0,acall1,acall2,acall3,bor,bor0,bor1,phiL_nil,phiL_at,tau,lentO,okIds,flatC,flatB,flatOs,flatO,flatPs,place,setAll_nil,setAll_cons,nodupB,renObj,closeIds,addNew,idsOf,idsObj,posOf,lenOk_0,lenOk_1,lenOk_2,lenOk_3,lenOk_4,lenOk_8,↓reduceIte,Option.isSome_none,Option.isSome_some,Bool.or_true,Bool.true_or, reduceEqDiff,Nat.reduceBEq,reduceSub,Nat.reduceLT,beq_self_eq_true,List.map,List.set,List.map_cons,List.map_nil,List.flatMap_cons,List.flatMap_nil,List.flatten_cons,List.flatten_nil,true_and,and_true,List.length_cons,List.length_nil,reduceAdd,reduceLeDiff,List.nil_append,List.cons_append,List.append_nil,Option.map,mapO,ren,kp,kpI,ent,nilG,Option.bind,List.range,List.range.loop,List.getElem?_cons_zero,List.getElem?_cons_succ,List.getElem?_nil,List.getD_cons_zero,List.getD_cons_succ,List.drop_zero,List.drop_succ_cons,List.drop_nil,List.take_zero,List.take_succ_cons,List.all_cons,List.all_nil,List.isEmpty_nil,List.isEmpty_cons,Bool.and_true,Bool.true_and,Bool.not_true,Bool.not_false,List.contains_nil,reduceCtorEq,List.contains_cons,Bool.or_false,Bool.false_or,eq_self,forall_const,false_implies,Bool.false_eq_true,Nat.le_refl,List.length_map,List.length_set,List.length_replicate,and_self,implies_true]
   refine loop_at [] [0,3] [] (fun a:Nat × List UInt8=>⟨[(0,.int .i64 (-(a.1:Int))),(3,.str a.2)],[]⟩) (fun a=>decP a.1 ++ a.2=decDigits m∧a.1≤m) (fun a=>a.1) (m,[]) rfl ⟨by simp only [List.append_nil]; exact decP_pos (by omega),Nat.le_refl _⟩ ⟨rfl,rfl⟩ (fun a ha=>?_)
   obtain ⟨cur,s⟩:=a
   obtain ⟨ha,hb⟩:=ha
   simp only at ha hb
   have hl:=congrArg List.length ha
   rw [List.length_append] at hl
   by_cases hc:cur=0
   ·subst hc
    have d2:decide (-((0:Nat):Int)<0)=false:=decide_eq_false (by omega)
    rw [decP_0,List.nil_append] at ha
    subst ha
    simp only [b_rdec_0,r_rdec,d2,hit,awp_scope,noG_n,noG_r,noG_x,awp_skip,awp_reg,awp_draw,awp_seq,awp_cond,awp_block,awp_loop,awp_exit,awp_ret,arun_nil,arun_op,arun_gt,arun_gf,arunD_nil,arunD_op,arunD_gt,arunD_gf,aq_some,isB_t,isB_u,isB_f,isB_g,isB_p,isU_t,isU_b,ifB_t,ifB_f,thenQ_n,thenQ_x,thenQ_r,inQ_n,inQ_r,inQ_x,retQ_n,retQ_r,exD,AOp.isH,keepN,preB,avalP,pureR,astep,stV,stN,stE,stC,aval,anew,aElems,frzS,frzH,aeff,slots,aret,ares,aress,AV.isTup,eqFs,aEqS,ofC_i,ofC_b,ofC_s,ofC_U,getD_mapU,getD_Bs,Bs_len,Int.toNat_natCast,opd,pt,tk,subp,rdP,Rt.size,Rt.isAgg,Rt.zv,aBin,aInt,aStr,arI,aUn,aToInt,aToStr,aIdxS,zv,aIdxA,aIa,aIaA,aFa,aLd,aFld,pparts,aLo,aHi,cutL,aSlS,aSl,aExt,aNck,aNilc,AV.isStr,aLen,AV.one,AV.multi,pureB,szOk,psz,drp,spl,aEqB,aEqA,aMm,aMkfn,aMkif,aBuild,toV,aBuildA,wrP,unparts,view,nilS,St.ev,lk,St.put,St.pin,St.pinV,acall0,acall1,acall2,acall3,bor,bor0,bor1,phiL_nil,phiL_at,tau,lentO,okIds,flatC,flatB,flatOs,flatO,flatPs,place,setAll_nil,setAll_cons,nodupB,renObj,closeIds,addNew,idsOf,idsObj,posOf,lenOk_0,lenOk_1,lenOk_2,lenOk_3,lenOk_4,lenOk_8,↓reduceIte,Option.isSome_none,Option.isSome_some,Bool.or_true,Bool.true_or, reduceEqDiff,Nat.reduceBEq,reduceSub,Nat.reduceLT,beq_self_eq_true,List.map,List.set,List.map_cons,List.map_nil,List.flatMap_cons,List.flatMap_nil,List.flatten_cons,List.flatten_nil,true_and,and_true,List.length_cons,List.length_nil,reduceAdd,reduceLeDiff,List.nil_append,List.cons_append,List.append_nil,Option.map,mapO,ren,kp,kpI,ent,nilG,Option.bind,List.range,List.range.loop,List.getElem?_cons_zero,List.getElem?_cons_succ,List.getElem?_nil,List.getD_cons_zero,List.getD_cons_succ,List.drop_zero,List.drop_succ_cons,List.drop_nil,List.take_zero,List.take_succ_cons,List.all_cons,List.all_nil,List.isEmpty_nil,List.isEmpty_cons,Bool.and_true,Bool.true_and,Bool.not_true,Bool.not_false,List.contains_nil,reduceCtorEq,List.contains_cons,Bool.or_false,Bool.false_or,eq_self,forall_const,false_implies,Bool.false_eq_true,Nat.le_refl,List.length_map,List.length_set,List.length_replicate,and_self,implies_true]
    simp only [Bool.false_eq_true,renObj,finP,finI,closeIds,addNew,idsOf,List.flatMap_nil,List.flatMap_cons,List.append_nil,List.nil_append,List.take_zero,nodupB,posOf,idsObj,List.getD_cons_zero,List.getD_cons_succ,List.range,List.range.loop,ren,lentO,mapO,Option.map,↓reduceIte,reduceEqDiff,true_and,and_true,List.getElem?_cons_zero,List.getElem?_cons_succ,reduceAdd,List.contains_nil,Bool.not_false,Bool.and_true,List.map_nil,List.map_cons,List.take_succ_cons]
    (first | omega | (simp only [lenOk,bytesOk,inI,IntKind.bits,List.length_append,Bs_len,List.length_cons,List.length_nil,List.length_map,List.length_take,List.length_drop,List.length_replicate]; omega))
   ·have d2:decide (-(cur:Int)<0)=true:=decide_eq_true (by omega)
    have e1:(-(cur:Int)).tmod 10 = -((cur % 10:Nat):Int):=by rw [Int.neg_tmod,show (10:Int)=((10:Nat):Int) from rfl,tmod_nat]
    have e2:(-(cur:Int)).tdiv 10 = -((cur / 10:Nat):Int):=by rw [Int.neg_tdiv,show (10:Int)=((10:Nat):Int) from rfl,tdiv_nat]
    have e3:48 - -((cur % 10:Nat):Int)=((48+cur % 10:Nat):Int):=by omega
    simp only [b_rdec_0,d2,e1,e2,e3,wrap8n (show 48+cur % 10<256 by omega),Bs_o8 _ (show 48+cur % 10<256 by omega),unB_Bs,awp_scope,noG_n,noG_r,noG_x,awp_skip,awp_reg,awp_draw,awp_seq,awp_cond,awp_block,awp_loop,awp_exit,awp_ret,arun_nil,arun_op,arun_gt,arun_gf,arunD_nil,arunD_op,arunD_gt,arunD_gf,aq_some,isB_t,isB_u,isB_f,isB_g,isB_p,isU_t,isU_b,ifB_t,ifB_f,thenQ_n,thenQ_x,thenQ_r,inQ_n,inQ_r,inQ_x,retQ_n,retQ_r,exD,AOp.isH,keepN,preB,avalP,pureR,astep,stV,stN,stE,stC,aval,anew,aElems,frzS,frzH,aeff,slots,aret,ares,aress,AV.isTup,eqFs,aEqS,ofC_i,ofC_b,ofC_s,ofC_U,getD_mapU,getD_Bs,Bs_len,Int.toNat_natCast,opd,pt,tk,subp,rdP,Rt.size,Rt.isAgg,Rt.zv,aBin,aInt,aStr,arI,aUn,aToInt,aToStr,aIdxS,zv,aIdxA,aIa,aIaA,aFa,aLd,aFld,pparts,aLo,aHi,cutL,aSlS,aSl,aExt,aNck,aNilc,AV.isStr,aLen,AV.one,AV.multi,pureB,szOk,psz,drp,spl,aEqB,aEqA,aMm,aMkfn,aMkif,aBuild,toV,aBuildA,wrP,unparts,view,nilS,St.ev,lk,St.put,St.pin,St.pinV,acall0,acall1,acall2,acall3,bor,bor0,bor1,phiL_nil,phiL_at,tau,lentO,okIds,flatC,flatB,flatOs,flatO,flatPs,place,setAll_nil,setAll_cons,nodupB,renObj,closeIds,addNew,idsOf,idsObj,posOf,lenOk_0,lenOk_1,lenOk_2,lenOk_3,lenOk_4,lenOk_8,↓reduceIte,Option.isSome_none,Option.isSome_some,Bool.or_true,Bool.true_or, reduceEqDiff,Nat.reduceBEq,reduceSub,Nat.reduceLT,beq_self_eq_true,List.map,List.set,List.map_cons,List.map_nil,List.flatMap_cons,List.flatMap_nil,List.flatten_cons,List.flatten_nil,true_and,and_true,List.length_cons,List.length_nil,reduceAdd,reduceLeDiff,List.nil_append,List.cons_append,List.append_nil,Option.map,mapO,ren,kp,kpI,ent,nilG,Option.bind,List.range,List.range.loop,List.getElem?_cons_zero,List.getElem?_cons_succ,List.getElem?_nil,List.getD_cons_zero,List.getD_cons_succ,List.drop_zero,List.drop_succ_cons,List.drop_nil,List.take_zero,List.take_succ_cons,List.all_cons,List.all_nil,List.isEmpty_nil,List.isEmpty_cons,Bool.and_true,Bool.true_and,Bool.not_true,Bool.not_false,List.contains_nil,reduceCtorEq,List.contains_cons,Bool.or_false,Bool.false_or,eq_self,forall_const,false_implies,Bool.false_eq_true,Nat.le_refl,List.length_map,List.length_set,List.length_replicate,and_self,implies_true]
    refine ⟨by omega,by (first | omega | (simp only [lenOk,bytesOk,inI,IntKind.bits,List.length_append,Bs_len,List.length_cons,List.length_nil,List.length_map,List.length_take,List.length_drop,List.length_replicate]; omega)),by (first | omega | (simp only [lenOk,bytesOk,inI,IntKind.bits,List.length_append,Bs_len,List.length_cons,List.length_nil,List.length_map,List.length_take,List.length_drop,List.length_replicate]; omega)),⟨by omega,by (first | omega | (simp only [lenOk,bytesOk,inI,IntKind.bits,List.length_append,Bs_len,List.length_cons,List.length_nil,List.length_map,List.length_take,List.length_drop,List.length_replicate]; omega))⟩,(cur / 10,o8 (48+cur % 10) :: s),⟨?_,by simp only; omega⟩,by simp only; omega,rfl⟩
    rw [decP_step (by omega),List.append_assoc] at ha
    exact ha
  ·have d1:decide (n<0)=false:=decide_eq_false hneg
   obtain ⟨m,rfl⟩:∃ m:Nat,n=(m:Int):=⟨n.natAbs,by omega⟩
   have hit:itoa (m:Int)=decDigits m:=itoa_nat m
   have hlen:=decD_pow 18 m (by omega)
   have e1:∀ c:Nat,(c:Int).tmod 10=((c % 10:Nat):Int):=fun c=>tmod_nat c 10
   have e2:∀ c:Nat,(c:Int).tdiv 10=((c / 10:Nat):Int):=fun c=>tdiv_nat c 10
   have e3:∀ c:Nat,48+((c % 10:Nat):Int)=((48+c % 10:Nat):Int):=fun c=>by omega
   simp only [c_rdec,t_rdec_1,d1,e1,e2,e3,wrap8n (show 48+m % 10<256 by omega),Bs_o8 _ (show 48+m % 10<256 by omega),unB_Bs,awp_scope,noG_n,noG_r,noG_x,awp_skip,awp_reg,awp_draw,awp_seq,awp_cond,awp_block,awp_loop,awp_exit,awp_ret,arun_nil,arun_op,arun_gt,arun_gf,arunD_nil,arunD_op,arunD_gt,arunD_gf,aq_some,isB_t,isB_u,isB_f,isB_g,isB_p,isU_t,isU_b,ifB_t,ifB_f,thenQ_n,thenQ_x,thenQ_r,inQ_n,inQ_r,inQ_x,retQ_n,retQ_r,exD,AOp.isH,keepN,preB,avalP,pureR,astep,stV,stN,stE,stC,aval,anew,aElems,frzS,frzH,aeff,slots,aret,ares,aress,AV.isTup,eqFs,aEqS,ofC_i,ofC_b,ofC_s,ofC_U,getD_mapU,getD_Bs,Bs_len,Int.toNat_natCast,opd,pt,tk,subp,rdP,Rt.size,Rt.isAgg,Rt.zv,aBin,aInt,aStr,arI,aUn,aToInt,aToStr,aIdxS,zv,aIdxA,aIa,aIaA,aFa,aLd,aFld,pparts,aLo,aHi,cutL,aSlS,aSl,aExt,aNck,aNilc,AV.isStr,aLen,AV.one,AV.multi,pureB,szOk,psz,drp,spl,aEqB,aEqA,aMm,aMkfn,aMkif,aBuild,toV,aBuildA,wrP,unparts,view,nilS,St.ev,lk,St.put,St.pin,St.pinV,acall0,acall1,acall2,acall3,bor,bor0,bor1,phiL_nil,phiL_at,tau,lentO,okIds,flatC,flatB,flatOs,flatO,flatPs,place,setAll_nil,setAll_cons,nodupB,renObj,closeIds,addNew,idsOf,idsObj,posOf,lenOk_0,lenOk_1,lenOk_2,lenOk_3,lenOk_4,lenOk_8,↓reduceIte,Option.isSome_none,Option.isSome_some,Bool.or_true,Bool.true_or, reduceEqDiff,Nat.reduceBEq,reduceSub,Nat.reduceLT,beq_self_eq_true,List.map,List.set,List.map_cons,List.map_nil,List.flatMap_cons,List.flatMap_nil,List.flatten_cons,List.flatten_nil,true_and,and_true,List.length_cons,List.length_nil,reduceAdd,reduceLeDiff,List.nil_append,List.cons_append,List.append_nil,Option.map,mapO,ren,kp,kpI,ent,nilG,Option.bind,List.range,List.range.loop,List.getElem?_cons_zero,List.getElem?_cons_succ,List.getElem?_nil,List.getD_cons_zero,List.getD_cons_succ,List.drop_zero,List.drop_succ_cons,List.drop_nil,List.take_zero,List.take_succ_cons,List.all_cons,List.all_nil,List.isEmpty_nil,List.isEmpty_cons,Bool.and_true,Bool.true_and,Bool.not_true,Bool.not_false,List.contains_nil,reduceCtorEq,List.contains_cons,Bool.or_false,Bool.false_or,eq_self,forall_const,false_implies,Bool.false_eq_true,Nat.le_refl,List.length_map,List.length_set,List.length_replicate,and_self,implies_true]
   refine ⟨by omega,by (first | omega | (simp only [lenOk,bytesOk,inI,IntKind.bits,List.length_append,Bs_len,List.length_cons,List.length_nil,List.length_map,List.length_take,List.length_drop,List.length_replicate]; omega)),⟨by omega,by (first | omega | (simp only [lenOk,bytesOk,inI,IntKind.bits,List.length_append,Bs_len,List.length_cons,List.length_nil,List.length_map,List.length_take,List.length_drop,List.length_replicate]; omega))⟩,?_⟩
   refine loop_at [] [0,4] [] (fun a:Nat × List UInt8=>⟨[(0,.int .i64 (a.1:Int)),(4,.str a.2)],[]⟩) (fun a=>decP a.1 ++ a.2=decDigits m∧a.1≤m) (fun a=>a.1) (m / 10,[o8 (48+m % 10)]) rfl ⟨decD_last m,by simp only; omega⟩ ⟨rfl,rfl⟩ (fun a ha=>?_)
   obtain ⟨cur,s⟩:=a
   obtain ⟨ha,hb⟩:=ha
   simp only at ha hb
   have hl:=congrArg List.length ha
   rw [List.length_append] at hl
   by_cases hc:cur=0
   ·subst hc
    have d2:decide ((0:Int)<((0:Nat):Int))=false:=decide_eq_false (by omega)
    rw [decP_0,List.nil_append] at ha
    subst ha
    simp only [b_rdec_1,t_rdec_0,r_rdec,d2,hit,awp_scope,noG_n,noG_r,noG_x,awp_skip,awp_reg,awp_draw,awp_seq,awp_cond,awp_block,awp_loop,awp_exit,awp_ret,arun_nil,arun_op,arun_gt,arun_gf,arunD_nil,arunD_op,arunD_gt,arunD_gf,aq_some,isB_t,isB_u,isB_f,isB_g,isB_p,isU_t,isU_b,ifB_t,ifB_f,thenQ_n,thenQ_x,thenQ_r,inQ_n,inQ_r,inQ_x,retQ_n,retQ_r,exD,AOp.isH,keepN,preB,avalP,pureR,astep,stV,stN,stE,stC,aval,anew,aElems,frzS,frzH,aeff,slots,aret,ares,aress,AV.isTup,eqFs,aEqS,ofC_i,ofC_b,ofC_s,ofC_U,getD_mapU,getD_Bs,Bs_len,Int.toNat_natCast,opd,pt,tk,subp,rdP,Rt.size,Rt.isAgg,Rt.zv,aBin,aInt,aStr,arI,aUn,aToInt,aToStr,aIdxS,zv,aIdxA,aIa,aIaA,aFa,aLd,aFld,pparts,aLo,aHi,cutL,aSlS,aSl,aExt,aNck,aNilc,AV.isStr,aLen,AV.one,AV.multi,pureB,szOk,psz,drp,spl,aEqB,aEqA,aMm,aMkfn,aMkif,aBuild,toV,aBuildA,wrP,unparts,view,nilS,St.ev,lk,St.put,St.pin,St.pinV,acall0,acall1,acall2,acall3,bor,bor0,bor1,phiL_nil,phiL_at,tau,lentO,okIds,flatC,flatB,flatOs,flatO,flatPs,place,setAll_nil,setAll_cons,nodupB,renObj,closeIds,addNew,idsOf,idsObj,posOf,lenOk_0,lenOk_1,lenOk_2,lenOk_3,lenOk_4,lenOk_8,↓reduceIte,Option.isSome_none,Option.isSome_some,Bool.or_true,Bool.true_or, reduceEqDiff,Nat.reduceBEq,reduceSub,Nat.reduceLT,beq_self_eq_true,List.map,List.set,List.map_cons,List.map_nil,List.flatMap_cons,List.flatMap_nil,List.flatten_cons,List.flatten_nil,true_and,and_true,List.length_cons,List.length_nil,reduceAdd,reduceLeDiff,List.nil_append,List.cons_append,List.append_nil,Option.map,mapO,ren,kp,kpI,ent,nilG,Option.bind,List.range,List.range.loop,List.getElem?_cons_zero,List.getElem?_cons_succ,List.getElem?_nil,List.getD_cons_zero,List.getD_cons_succ,List.drop_zero,List.drop_succ_cons,List.drop_nil,List.take_zero,List.take_succ_cons,List.all_cons,List.all_nil,List.isEmpty_nil,List.isEmpty_cons,Bool.and_true,Bool.true_and,Bool.not_true,Bool.not_false,List.contains_nil,reduceCtorEq,List.contains_cons,Bool.or_false,Bool.false_or,eq_self,forall_const,false_implies,Bool.false_eq_true,Nat.le_refl,List.length_map,List.length_set,List.length_replicate,and_self,implies_true]
    simp only [Bool.false_eq_true,renObj,finP,finI,closeIds,addNew,idsOf,List.flatMap_nil,List.flatMap_cons,List.append_nil,List.nil_append,List.take_zero,nodupB,posOf,idsObj,List.getD_cons_zero,List.getD_cons_succ,List.range,List.range.loop,ren,lentO,mapO,Option.map,↓reduceIte,reduceEqDiff,true_and,and_true,List.getElem?_cons_zero,List.getElem?_cons_succ,reduceAdd,List.contains_nil,Bool.not_false,Bool.and_true,List.map_nil,List.map_cons,List.take_succ_cons]
   ·have d2:decide ((0:Int)<(cur:Int))=true:=decide_eq_true (by omega)
    simp only [b_rdec_1,d2,e1,e2,e3,wrap8n (show 48+cur % 10<256 by omega),Bs_o8 _ (show 48+cur % 10<256 by omega),unB_Bs,awp_scope,noG_n,noG_r,noG_x,awp_skip,awp_reg,awp_draw,awp_seq,awp_cond,awp_block,awp_loop,awp_exit,awp_ret,arun_nil,arun_op,arun_gt,arun_gf,arunD_nil,arunD_op,arunD_gt,arunD_gf,aq_some,isB_t,isB_u,isB_f,isB_g,isB_p,isU_t,isU_b,ifB_t,ifB_f,thenQ_n,thenQ_x,thenQ_r,inQ_n,inQ_r,inQ_x,retQ_n,retQ_r,exD,AOp.isH,keepN,preB,avalP,pureR,astep,stV,stN,stE,stC,aval,anew,aElems,frzS,frzH,aeff,slots,aret,ares,aress,AV.isTup,eqFs,aEqS,ofC_i,ofC_b,ofC_s,ofC_U,getD_mapU,getD_Bs,Bs_len,Int.toNat_natCast,opd,pt,tk,subp,rdP,Rt.size,Rt.isAgg,Rt.zv,aBin,aInt,aStr,arI,aUn,aToInt,aToStr,aIdxS,zv,aIdxA,aIa,aIaA,aFa,aLd,aFld,pparts,aLo,aHi,cutL,aSlS,aSl,aExt,aNck,aNilc,AV.isStr,aLen,AV.one,AV.multi,pureB,szOk,psz,drp,spl,aEqB,aEqA,aMm,aMkfn,aMkif,aBuild,toV,aBuildA,wrP,unparts,view,nilS,St.ev,lk,St.put,St.pin,St.pinV,acall0,acall1,acall2,acall3,bor,bor0,bor1,phiL_nil,phiL_at,tau,lentO,okIds,flatC,flatB,flatOs,flatO,flatPs,place,setAll_nil,setAll_cons,nodupB,renObj,closeIds,addNew,idsOf,idsObj,posOf,lenOk_0,lenOk_1,lenOk_2,lenOk_3,lenOk_4,lenOk_8,↓reduceIte,Option.isSome_none,Option.isSome_some,Bool.or_true,Bool.true_or, reduceEqDiff,Nat.reduceBEq,reduceSub,Nat.reduceLT,beq_self_eq_true,List.map,List.set,List.map_cons,List.map_nil,List.flatMap_cons,List.flatMap_nil,List.flatten_cons,List.flatten_nil,true_and,and_true,List.length_cons,List.length_nil,reduceAdd,reduceLeDiff,List.nil_append,List.cons_append,List.append_nil,Option.map,mapO,ren,kp,kpI,ent,nilG,Option.bind,List.range,List.range.loop,List.getElem?_cons_zero,List.getElem?_cons_succ,List.getElem?_nil,List.getD_cons_zero,List.getD_cons_succ,List.drop_zero,List.drop_succ_cons,List.drop_nil,List.take_zero,List.take_succ_cons,List.all_cons,List.all_nil,List.isEmpty_nil,List.isEmpty_cons,Bool.and_true,Bool.true_and,Bool.not_true,Bool.not_false,List.contains_nil,reduceCtorEq,List.contains_cons,Bool.or_false,Bool.false_or,eq_self,forall_const,false_implies,Bool.false_eq_true,Nat.le_refl,List.length_map,List.length_set,List.length_replicate,and_self,implies_true]
    refine ⟨by omega,by (first | omega | (simp only [lenOk,bytesOk,inI,IntKind.bits,List.length_append,Bs_len,List.length_cons,List.length_nil,List.length_map,List.length_take,List.length_drop,List.length_replicate]; omega)),by (first | omega | (simp only [lenOk,bytesOk,inI,IntKind.bits,List.length_append,Bs_len,List.length_cons,List.length_nil,List.length_map,List.length_take,List.length_drop,List.length_replicate]; omega)),⟨by omega,by (first | omega | (simp only [lenOk,bytesOk,inI,IntKind.bits,List.length_append,Bs_len,List.length_cons,List.length_nil,List.length_map,List.length_take,List.length_drop,List.length_replicate]; omega))⟩,(cur / 10,o8 (48+cur % 10) :: s),⟨?_,by simp only; omega⟩,by simp only; omega,rfl⟩
    rw [decP_step (by omega),List.append_assoc] at ha
    exact ha
 ·cases hs
def digs:List UInt8:=[48,49,50,51,52,53,54,55,56,57,97,98,99,100,101,102]
def hexL:List UInt8→List UInt8
 | []=>[]
 | b :: l=>digs.getD (b.toNat / 16) 0 :: digs.getD (b.toNat % 16) 0 :: hexL l
theorem hexL_length:∀ l,(hexL l).length=2 * l.length
 | []=>rfl
 | b :: l=>by simp [hexL,hexL_length l]; omega
theorem hexL_append:∀ l m,hexL (l ++ m)=hexL l ++ hexL m
 | [],m=>rfl
 | b :: l,m=>by simp [hexL,hexL_append l m]
set_option maxHeartbeats 1000000 in
set_option maxRecDepth 100000 in
theorem copyCheck_used (b:Nat) (w:World) (h0:w.cell? ⟨b,0,none⟩=some (.pointer (some ⟨b,0,none⟩))) :
  Calls Tryd.prog 67 #[.pointer (some ⟨b,0,none⟩)] w fun e w' => e=.returned (.tuple #[])∧w' = w:=by
 obtain ⟨j,hj,_⟩:=Option.map_eq_some_iff.1 (show (Tryd.prog.info? 89).map (·.size)=some 2 by kernel_rfl)
 go_enter Tryd.func67,Tryd.ntmps67
 go_wp2
 rw [Lib.run_neq_ptr_same w _ Tryd.underlying87 hj]
 go_wp2
 go_end0
 exact ⟨rfl,rfl⟩
set_option maxHeartbeats 1000000 in
set_option maxRecDepth 100000 in
theorem copyCheck_fresh (b:Nat) (w:World) (h0:w.cell? ⟨b,0,none⟩=some (.pointer none)) (hsh:w.shape? b=some (89,2)) (hfz:w.frozen? ⟨b,0,none⟩=false) :
  Calls Tryd.prog 67 #[.pointer (some ⟨b,0,none⟩)] w fun e w' => e=.returned (.tuple #[])∧w' = w.setCell ⟨b,0,none⟩ (.pointer (some ⟨b,0,none⟩)):=by
 obtain ⟨j,hj,hjs⟩:=Option.map_eq_some_iff.1 (show (Tryd.prog.info? 89).map (·.size)=some 2 by kernel_rfl)
 go_enter Tryd.func67,Tryd.ntmps67
 go_wp2
 rw [Lib.run_to_unsafe w ⟨b,0,none⟩ Tryd.underlying87 Tryd.underlying153 hj (by rw [hjs]; decide) hsh (Nat.zero_lt_succ 1)]
 simp only [Result.andThen]
 rw [Oper.upon_value]
 go_wp2
 rw [run_callFunc_extern Tryd.func95 (by kernel_rfl) (by kernel_rfl) (by kernel_rfl) (e:=Extern.AbiNoEscape.same) (by kernel_rfl)]
 rw [Lib.run_noEscape]
 simp only [Result.andThen]
 rw [Oper.upon_value]
 go_wp2
 rw [Lib.run_from_unsafe w ⟨b,0,none⟩ Tryd.underlying153 Tryd.underlying87 hj hsh (show liesAt Tryd.prog Tryd.prog.depth 89 (2 / Tryd.prog.cellsOf 89) 0 89 1=true by kernel_rfl)]
 simp only [Result.andThen]
 rw [Oper.upon_value]
 go_wp2
 go_end0
 exact ⟨rfl,rfl⟩
theorem copyCheck (B b:Nat) (bs:List Value) (w:World) (h:Lib.IsBuilder 89 5 B b bs w) :
  Calls Tryd.prog 67 #[.pointer (some ⟨b,0,none⟩)] w fun e w' => e=.returned (.tuple #[])∧(Lib.BuilderAt 89 5 B b (.pointer (some ⟨b,0,none⟩)) bs w' ∧ Below B w w'):=by
 rcases h with h | h
 ·refine (copyCheck_fresh b w h.cell0 h.shape h.frozen0).mono ?_
  rintro e w' ⟨rfl,rfl⟩
  exact ⟨rfl,h.used _,(Below.refl B w).setCell (p:=⟨b,0,none⟩) h.1 _⟩
 ·refine (copyCheck_used b w h.cell0).mono ?_
  rintro e w' ⟨rfl,rfl⟩
  exact ⟨rfl,h,Below.refl B _⟩
set_option maxHeartbeats 2000000 in
set_option maxRecDepth 100000 in
theorem writeByte (B b:Nat) (bs:List Value) (c:Int) (w:World) (h:Lib.IsBuilder 89 5 B b bs w) (hlen:bs.length+1≤140737488355328) (hBw:B≤w.heap.size) :
  Calls Tryd.prog 47 #[.pointer (some ⟨b,0,none⟩),.int .u8 c] w fun e w' => e=.returned .nilIface∧(Lib.BuilderAt 89 5 B b (.pointer (some ⟨b,0,none⟩)) (bs ++ [.int .u8 c]) w' ∧ Below B w w'):=by
 obtain ⟨i0,hi,hz0,hz1,hz2⟩:=info_parts (show (Tryd.prog.info? 5).map (fun i=>(i.zero,i.size,i.bytes))=some (some (.int .u8 0),1,1) by kernel_rfl)
 go_enter Tryd.func47,Tryd.ntmps47
 go_wp2_with (go_at_call 67; refine (copyCheck B b bs _ h).mono ?_)
 rintro e w1 ⟨rfl,h1,hb1⟩
 obtain ⟨hB,v,hbk,hown,hne⟩:=h1
 have c0:w1.cell? ⟨b,0,none⟩=some (.pointer (some ⟨b,0,none⟩)):=by rw [Lib.cell_of_heap hbk]; rfl
 have c1:w1.cell? ⟨b,1,none⟩=some v:=by rw [Lib.cell_of_heap hbk]; rfl
 go_wp2_with (at_builtin; refine wpList_append_own _ rfl _ _ 27 rfl B 5 i0 (.int .u8 0) 1 1 Tryd.underlying27 hi hz0 hz1 hz2 rfl (by decide) _ _ _ rfl (hown.alloc _) ⟨w1.heap.size,0,none⟩ 1 1 [.int .u8 c] rfl rfl ?c1 ?c2 ?c3 ?c4 ?c5 ?_)
 case c1 =>
  intro j u hj
  match j,hj with
  | 0,hj=>simp at hj; subst hj; simp [Addr.add]
 case c2=>intro u hu; simp at hu; subst hu; rfl
 case c3=>unfold maxLen; omega
 case c4=>omega
 case c5=>have:=hb1.size; simp; omega
 intro v' w2 hown' hgrow _
 have hlt:b<w1.heap.size:=by
  rcases Nat.lt_or_ge b w1.heap.size with h' | h'
  ·exact h'
  ·simp [Array.getElem?_eq_none h'] at hbk
 have hb2:w2.heap[b]?=some (.cells #[.pointer (some ⟨b,0,none⟩),v] 89 (0,0)):=by
  rw [hgrow.block b (by simp; omega) (fun e=>hne e.symm),Lib.alloc_old w1 _ b hlt]
  exact hbk
 have d0:w2.cell? ⟨b,0,none⟩=some (.pointer (some ⟨b,0,none⟩)):=by rw [Lib.cell_of_heap hb2]; rfl
 have d1:w2.cell? ⟨b,1,none⟩=some v:=by rw [Lib.cell_of_heap hb2]; rfl
 have f1:w2.frozen? ⟨b,1,none⟩=false:=Lib.frozen_of_heap hb2 1
 obtain ⟨g,cap,rfl⟩:∃ g cap,v' = .slice (some ⟨g,0,none⟩) (bs.length+1) cap:=by
  rcases hown'.2 with ⟨_,h0⟩ | ⟨g,cap,cur,hv,_⟩
  ·omega
  ·exact ⟨g,cap,hv⟩
 go_wp2
 go_ret
 refine ⟨rfl,?_,?_⟩
 ·exact Lib.BuilderAt.put (T:=89) (e:=5) hB hb2 (bs' := bs ++ [.int .u8 c]) (by simpa using hown') (by decide)
 ·exact ((hb1.alloc (by have:=hb1.size; omega) _).grown hgrow (by have:=hb1.size; simp; omega) (fun k hk=>(hown.lt k hk).1)).setCell (p:=⟨b,1,none⟩) hB _
end Go.Proofs.YtakolikdebfkeaaDoor

namespace Go.Proofs.YtakolikdebfkeaaDoor
open Go.RowKit
theorem index20 (l:List UInt8) (j:Nat) (hl:l.length=20) (hj:j<20) (w:World):(Instr.index 49 (.agg (l.map U).toArray) (.int .i64 (j:Int))).run Tryd.prog w=.ok (U (l.getD j 0)) w:=by
 have h1:(l.map U).toArray[j]?=some (U (l.getD j 0)):=by
  simp [List.getElem?_eq_getElem (show j<l.length by omega)]
 have e:(l.map U).toArray.size=20:=by simp; omega
 have hz:(0:Int)≤(j:Int):=by omega
 have hw:IntKind.i64.wrap (j:Int)=j:=IntWalk.i64_in _ (by omega)
 have hj2:(j:Int)<20:=by omega
 simp [go_sem,Instr.index,h1,e,run_underlying Tryd.underlying49,hw,hz,hj2]
 rw [if_pos hj,List.getElem?_eq_getElem (show j<l.length by omega)]
 rfl
def digS:ByteArray:=⟨#[48,49,50,51,52,53,54,55,56,57,97,98,99,100,101,102]⟩
theorem indexDig (k:Nat) (hk:k<16) (w:World):(Instr.index 9 (.string digS) (.int .u8 (k:Int))).run Tryd.prog w=.ok (.int .u8 ((digs.getD k 0).toNat:Int)) w:=by
 match k,hk with
 | 0,_=>exact (run_index_string w 9 digS .u8 _ Tryd.underlying9).trans rfl
 | 1,_=>exact (run_index_string w 9 digS .u8 _ Tryd.underlying9).trans rfl
 | 2,_=>exact (run_index_string w 9 digS .u8 _ Tryd.underlying9).trans rfl
 | 3,_=>exact (run_index_string w 9 digS .u8 _ Tryd.underlying9).trans rfl
 | 4,_=>exact (run_index_string w 9 digS .u8 _ Tryd.underlying9).trans rfl
 | 5,_=>exact (run_index_string w 9 digS .u8 _ Tryd.underlying9).trans rfl
 | 6,_=>exact (run_index_string w 9 digS .u8 _ Tryd.underlying9).trans rfl
 | 7,_=>exact (run_index_string w 9 digS .u8 _ Tryd.underlying9).trans rfl
 | 8,_=>exact (run_index_string w 9 digS .u8 _ Tryd.underlying9).trans rfl
 | 9,_=>exact (run_index_string w 9 digS .u8 _ Tryd.underlying9).trans rfl
 | 10,_=>exact (run_index_string w 9 digS .u8 _ Tryd.underlying9).trans rfl
 | 11,_=>exact (run_index_string w 9 digS .u8 _ Tryd.underlying9).trans rfl
 | 12,_=>exact (run_index_string w 9 digS .u8 _ Tryd.underlying9).trans rfl
 | 13,_=>exact (run_index_string w 9 digS .u8 _ Tryd.underlying9).trans rfl
 | 14,_=>exact (run_index_string w 9 digS .u8 _ Tryd.underlying9).trans rfl
 | 15,_=>exact (run_index_string w 9 digS .u8 _ Tryd.underlying9).trans rfl
 | k+16,hk=>exact absurd hk (by omega)
theorem u8_hi (u:UInt8):(u.toNat:Int) / 16=((u.toNat / 16:Nat):Int):=by omega
theorem u8_lo (u:UInt8):bits .and .u8 (u.toNat:Int) 15=((u.toNat % 16:Nat):Int):=by
 have h:=u8_and_nat u.toNat 15 u.toNat_lt (by omega)
 rw [show ((15:Nat):Int)=15 from rfl] at h
 rw [h,show (15:Nat)=2 ^ 4 - 1 from rfl,Nat.and_two_pow_sub_one_eq_mod]
theorem hexL_take (l:List UInt8) (k:Nat) (u:UInt8) (hk:k<l.length) (hu:l.getD k 0=u):hexL (l.take (k+1))=hexL (l.take k) ++ [digs.getD (u.toNat / 16) 0] ++ [digs.getD (u.toNat % 16) 0]:=by
 have e:l.take (k+1)=l.take k ++ [u]:=by
  rw [List.take_succ,List.getElem?_eq_getElem hk,← hu]
  simp [List.getElem?_eq_getElem hk]
 rw [e,hexL_append]
 simp [hexL]
theorem byteCells_snoc (X:List UInt8) (d:UInt8):Lib.byteCells X ++ [.int .u8 (d.toNat:Int)]=Lib.byteCells (X ++ [d]):=by simp [Lib.byteCells]
set_option maxHeartbeats 2000000 in
set_option maxRecDepth 100000 in
theorem shaHex (l:List UInt8) (h20:l.length=20) (w:World) :
  Calls Tryd.prog 24 #[.agg (l.map U).toArray] w fun e w' => e=.returned (.string ⟨(hexL l).toArray⟩)∧Below w.heap.size w w' := by
 go_enter Tryd.func24,Tryd.ntmps24
 go_wp2_with (with_reducible refine wpList_stop_load (ty:=49) (x:=.tmp 1) rfl ?_)
 have hS:=((Sep.start w).allocC (l.map U).toArray 49).allocC #[.pointer none,.slice none 0 0] 89
 rw [show (w.alloc (.cells (l.map U).toArray 49)).heap.size=w.heap.size+1 from World.size_alloc _ _] at hS
 refine unstop (wpList_load_row rfl 49 (.tmp 1) rfl w.heap.size rfl 49 (l.map U).toArray (0,0) _ (hS.blk 0 rfl) Tryd.underlying49 rfl (by rw [show (l.map U).toArray.size=20 by simp [h20]]; exact info20) ?_)
 have hb:Lib.IsBuilder 89 5 w.heap.size (w.heap.size+1) (Lib.byteCells (hexL [])) ((w.alloc (.cells (l.map U).toArray 49)).alloc (.cells #[.pointer none,.slice none 0 0] 89)) :=
  Or.inl ⟨by omega,.slice none 0 0,hS.blk 1 rfl,World.ownsRow_nil _ _ _ _,by simp [Value.ownBlock]⟩
 have hB:=hS.below
 clear hS
 go_wp2
 go_loopw [7] (fun i wr=>∃ k:Nat,k≤20∧i=.int .i64 k∧Lib.IsBuilder 89 5 w.heap.size (w.heap.size+1) (Lib.byteCells (hexL (l.take k))) wr∧Below w.heap.size w wr)
  (fun i _=>20 - (intOf i).toNat)
 case atStart=>exact ⟨0,by omega,rfl,by simpa using hb,hB⟩
 case round =>
  clear hb hB
  obtain ⟨k,hk,rfl,hb,hB⟩:=hrel
  by_cases hlt:k<20
  ·obtain ⟨u,hu⟩:∃ u,l.getD k 0=u:=⟨_,rfl⟩
   have hx:∀ w,(Instr.index 49 (.agg (l.map U).toArray) (.int .i64 (k:Int))).run Tryd.prog w=.ok (.int .u8 (u.toNat:Int)) w:=by
    rw [← hu]; exact index20 l k h20 hlt
   have h1:∀ w,(Instr.index 9 (.string ⟨#[48,49,50,51,52,53,54,55,56,57,97,98,99,100,101,102]⟩) (.int .u8 ((u.toNat:Int) / 16))).run Tryd.prog w=.ok (.int .u8 ((digs.getD (u.toNat / 16) 0).toNat:Int)) w:=fun w=>by
    have:=u.toNat_lt
    rw [u8_hi]; exact indexDig _ (by omega) w
   have h2:∀ w,(Instr.index 9 (.string ⟨#[48,49,50,51,52,53,54,55,56,57,97,98,99,100,101,102]⟩) (.int .u8 (bits .and .u8 (u.toNat:Int) 15))).run Tryd.prog w=.ok (.int .u8 ((digs.getD (u.toNat % 16) 0).toNat:Int)) w:=fun w=>by
    rw [u8_lo]; exact indexDig _ (by omega) w
   have htk:=hide (hexL_take l k u (by omega) hu)
   have hle:=hide (show (hexL (l.take k)).length≤40 by rw [hexL_length,List.length_take]; omega)
   generalize hexL (l.take k)=X at *
   generalize digs.getD (u.toNat / 16) 0=d1 at *
   generalize digs.getD (u.toNat % 16) 0=d2 at *
   go_wp2_with (at_builtin; refine stopAt ?_)
   refine (writeByte w.heap.size (w.heap.size+1) (Lib.byteCells X) _ wr hb (by rw [Lib.byteCells_length]; have:=hle.out; omega) hB.size).mono ?_
   rintro e w1 ⟨rfl,hb1,hB1⟩
   rw [byteCells_snoc] at hb1
   replace hB:=hB.trans hB1
   clear hb hB1
   go_wp2_with (at_builtin; refine stopAt ?_)
   refine (writeByte w.heap.size (w.heap.size+1) (Lib.byteCells (X ++ [d1])) _ w1 (.inr hb1) (by rw [Lib.byteCells_length,List.length_append]; have:=hle.out; simp; omega) hB.size).mono ?_
   rintro e w2 ⟨rfl,hb2,hB2⟩
   rw [byteCells_snoc] at hb2
   replace hB:=hB.trans hB2
   clear hb1 hB2
   go_wp2
   go_roundw
   case rel=>exact ⟨k+1,by omega,rfl,.inr (by rw [htk.out]; exact hb2),hB⟩
   case measure=>simp [intOf]; omega
  ·obtain rfl:k=20:=by omega
   rw [List.take_of_length_le (by omega)] at hb
   go_wp2_with (at_builtin; refine stopAt ?_)
   refine (Tryd.Builder_String_any w.heap.size (w.heap.size+1) (hexL l) wr hb hB.size).mono ?_
   rintro e w1 ⟨rfl,hB1⟩
   replace hB:=hB.trans hB1
   go_wp2
   go_ret
   exact ⟨rfl,hB⟩
theorem blob_U (l:List UInt8) (w:World) (S:Nat→Prop) (ρ:Rho):Vl w S ρ (.blob (l.map U)) (.agg (l.map U).toArray) :=
 Vl.blob' _ fun u hu=>by obtain ⟨x,_,rfl⟩:=List.mem_map.1 hu; rfl
def hexS:Spec:=fun xs hp=>match xs,hp with
 | [.blob cs],[]=>some ⟨.str (hexL (unV cs)),[],cs=(unV cs).map U∧cs.length=20⟩
 | _,_=>none
theorem hex_ok:FnOk Tryd.prog 24 hexS:=by
 refine fnok_of_calls fun xs0 hp r hs hp' => ?_
 unfold hexS at hs
 split at hs
 ·rename_i cs
  injection hs with hs; subst hs
  obtain ⟨p1,p2⟩:=hp'
  refine ⟨rfl,rfl,fun w S ρ args hS ha=>?_⟩
  obtain ⟨v,vs,rfl,hv,hr⟩:=ha.get _ _ rfl
  obtain rfl:=hr.none
  generalize unV cs=l at *
  subst p1
  rw [hv.blob]
  refine (shaHex l (by simpa using p2) w).mono ?_
  rintro e w' ⟨rfl,hb⟩
  exact ⟨_,rfl,hb,fun w' S ρ=>Vl.str' _⟩
 ·cases hs
def unSl:AV→List UInt8
 | .sl _ bs=>unB bs
 | _=>[]
def slB (l:List UInt8):AV:=.sl 1 (Bs l)
theorem css_recs {w:World} {S:Nat→Prop}:∀ (parts:List (List UInt8)) (us:List Value),Css w S rho0 (prs 1 (parts.map slB)) us→∃ xs:List BRec,xs.map (·.b)=parts∧us=xs.map BRec.cell∧∀ x∈xs,Rd w x.A x.b:=by
 intro parts
 induction parts with
 | nil=>intro us h; exact ⟨[],rfl,h,fun x hx=>by simp at hx⟩
 | cons l parts ih =>
  intro us h
  obtain ⟨u1,u2,rfl,h1,h2,h3⟩:=h
  obtain ⟨xs,x1,x2,x3⟩:=ih u2 h3
  obtain ⟨v,rfl⟩:∃ v,u1=[v]:=by
   match u1,h1 with
   | [v],_=>exact ⟨v,rfl⟩
  obtain ⟨A,n,c,us',rfl,hM⟩:=Mem.of_sl h2
  obtain ⟨r1,r2⟩:=hM.rd
  subst r2
  exact ⟨⟨A,c,l⟩ :: xs,by simp [x1],by simp [x2,BRec.cell],fun x hx=>by
   rcases List.mem_cons.1 hx with rfl | hx
   ·exact r1
   ·exact x3 x hx⟩
def sumS:Spec:=fun xs hp=>match xs,hp with
 | [.sl 1 ps],[]=>some ⟨.blob ((sha (ps.map unSl).flatten).map U),[],ps=(ps.map unSl).map slB∧ps.length≤1099511627776∧(ps.map unSl).flatten.length≤1099511627776⟩
 | _,_=>none
theorem sum_ok:FnOk Tryd.prog 45 sumS:=by
 refine fnok_of_calls fun xs0 hp r hs hp' => ?_
 unfold sumS at hs
 split at hs
 ·rename_i ps
  injection hs with hs; subst hs
  obtain ⟨p1,p2,p3⟩:=hp'
  refine ⟨rfl,rfl,fun w S ρ args hS ha=>?_⟩
  obtain ⟨v,vs,rfl,hv,hr⟩:=ha.get _ _ rfl
  obtain rfl:=hr.none
  generalize ps.map unSl=parts at *
  subst p1
  have hlen:parts.length≤1099511627776:=by simpa using p2
  obtain ⟨A,n,c,us,rfl,hM⟩:=Mem.of_sl hv.sl
  obtain ⟨xs,x1,x2,x3⟩:=css_recs parts us hM.css
  have hxl:xs.length=parts.length:=by rw [← x1,List.length_map]
  have hfl:flatR xs=parts.flatten:=by unfold flatR; rw [x1]
  have hrd:RdS w A xs:=by
   refine ⟨fun h0=>?_,x3⟩
   obtain ⟨b,o,e,hc⟩:=hM.cell (by rw [x2]; simpa using h0)
   refine ⟨b,o,e,fun j u hj=>?_⟩
   rw [← x2] at hj
   rw [hc j (List.getElem?_eq_some_iff.1 hj).1,hj]
  have hn:=hM.len
  rw [List.length_map] at hn
  refine (shaSum A n c xs w (by rw [hn,hxl]) hrd (by omega) (by rw [hfl]; exact p3)).mono ?_
  rintro e w' ⟨rfl,hb⟩
  exact ⟨_,rfl,hb,fun w' S ρ=>by rw [hfl]; exact blob_U _ _ _ _⟩
 ·cases hs
def c_oword:ACode:=(.seq (.reg none [oS 2 (.mv (.c (.str [])))]) (.seq (.reg none [oS 4 (.buildA [(.string ⟨#[]⟩),(.string ⟨#[]⟩),(.string ⟨#[]⟩),(.string ⟨#[]⟩),(.string ⟨#[]⟩)] [(0,(.c (.str []))),(1,(.c (.str [99,111,109,109,105,116]))),(2,(.c (.str [116,114,101,101]))),(3,(.c (.str [98,108,111,98]))),(4,(.c (.str [116,97,103])))]),oS 3 (.new 95 [(5,(.blob [(.string ⟨#[]⟩),(.string ⟨#[]⟩),(.string ⟨#[]⟩),(.string ⟨#[]⟩),(.string ⟨#[]⟩)]))]),oN (.st (.arr 5) (.t 3) (.t 4))]) (.seq (.seq (.reg none [oS 5 (.mv (.t 0)),oS 6 (.bin .lss (.t 5) (.c (.int .i64 1))),oS 7 (.mv (.t 6)),oH 8 (.mv (.t 0)) 7,oH 9 (.bin .gtr (.t 8) (.c (.int .i64 4))) 7,oS 10 (.pick (.t 7) (.c (.bool true)) (.t 9))]) (.cond (.t 10) (.seq (.reg none [oS 2 (.mv (.c (.str [])))]) .ret) .skip)) (.seq (.reg none [oS 11 (.mv (.t 0)),oS 12 (.iaA 5 (.t 3) (.t 11)),oS 13 (.ld (.one (.str [])) (.t 12)),oS 2 (.mv (.t 13))]) .ret))))
def r_oword:List ARes:=[(.t 2)]
theorem s_oword:slimF Tryd.prog Tryd.f25=some (c_oword,r_oword):=by kernel_rfl
def wordL:Int→List UInt8
 | 1=>[99,111,109,109,105,116]
 | 2=>[116,114,101,101]
 | 3=>[98,108,111,98]
 | 4=>[116,97,103]
 | _=>[]
theorem wordL_out {k:Int} (h:k<1∨4<k):wordL k=[]:=by
 unfold wordL
 split <;> first | rfl | omega
def wordS:Spec:=fun xs hp=>match xs,hp with
 | [.int .i64 k],[]=>some ⟨.str (wordL k),[],True⟩
 | _,_=>none
theorem oword_ok:FnOk Tryd.prog 25 wordS:=by
 refine fn_slim2 Tryd.func25 s_oword (Φ:=phiL []) phi_nil ?_
 intro xs hp r hs hp'
 unfold wordS at hs
 split at hs
 ·injection hs with hs; subst hs
  rename_i k
  refine ⟨len_le (by kernel_rfl),?_⟩
  have hcase:k<1∨4<k∨k=1∨k=2∨k=3∨k=4:=by omega
  rcases hcase with h | h | rfl | rfl | rfl | rfl
  ·rw [wordL_out (.inl h)]
   simp only [decide_eq_true h,c_oword,r_oword,wordL,Int.reduceLT,Int.reduceLE,Int.reduceToNat,List.getD_cons_zero,List.getD_cons_succ,ofC,decide_true,decide_false,go_sem,reduceDiv,reduceMod,↓reduceIte,reduceEqDiff,Nat.reduceBEq,reduceSub,Nat.reduceLT,reduceAdd,reduceLeDiff,reduceCtorEq,Int.reduceEq,Int.reduceNe,Int.reduceLT,Int.reduceLE,Int.reduceToNat]
  ·rw [wordL_out (.inr h)]
   have h1:decide (k<1)=false:=decide_eq_false (by omega)
   simp only [decide_eq_true h,h1,c_oword,r_oword,wordL,Int.reduceLT,Int.reduceLE,Int.reduceToNat,List.getD_cons_zero,List.getD_cons_succ,ofC,decide_true,decide_false,go_sem,reduceDiv,reduceMod,↓reduceIte,reduceEqDiff,Nat.reduceBEq,reduceSub,Nat.reduceLT,reduceAdd,reduceLeDiff,reduceCtorEq,Int.reduceEq,Int.reduceNe,Int.reduceLT,Int.reduceLE,Int.reduceToNat]
  ·simp only [c_oword,r_oword,wordL,Int.reduceLT,Int.reduceLE,Int.reduceToNat,List.getD_cons_zero,List.getD_cons_succ,ofC,decide_true,decide_false,go_sem,reduceDiv,reduceMod,↓reduceIte,reduceEqDiff,Nat.reduceBEq,reduceSub,Nat.reduceLT,reduceAdd,reduceLeDiff,reduceCtorEq,Int.reduceEq,Int.reduceNe,Int.reduceLT,Int.reduceLE,Int.reduceToNat]
   done
  ·simp only [c_oword,r_oword,wordL,Int.reduceLT,Int.reduceLE,Int.reduceToNat,List.getD_cons_zero,List.getD_cons_succ,ofC,decide_true,decide_false,go_sem,reduceDiv,reduceMod,↓reduceIte,reduceEqDiff,Nat.reduceBEq,reduceSub,Nat.reduceLT,reduceAdd,reduceLeDiff,reduceCtorEq,Int.reduceEq,Int.reduceNe,Int.reduceLT,Int.reduceLE,Int.reduceToNat]
  ·simp only [c_oword,r_oword,wordL,Int.reduceLT,Int.reduceLE,Int.reduceToNat,List.getD_cons_zero,List.getD_cons_succ,ofC,decide_true,decide_false,go_sem,reduceDiv,reduceMod,↓reduceIte,reduceEqDiff,Nat.reduceBEq,reduceSub,Nat.reduceLT,reduceAdd,reduceLeDiff,reduceCtorEq,Int.reduceEq,Int.reduceNe,Int.reduceLT,Int.reduceLE,Int.reduceToNat]
  ·simp only [c_oword,r_oword,wordL,Int.reduceLT,Int.reduceLE,Int.reduceToNat,List.getD_cons_zero,List.getD_cons_succ,ofC,decide_true,decide_false,go_sem,reduceDiv,reduceMod,↓reduceIte,reduceEqDiff,Nat.reduceBEq,reduceSub,Nat.reduceLT,reduceAdd,reduceLeDiff,reduceCtorEq,Int.reduceEq,Int.reduceNe,Int.reduceLT,Int.reduceLE,Int.reduceToNat]
 ·cases hs
def c_rword:ACode:=(.seq (.reg none [oS 2 (.mv (.c (.str [])))]) (.seq (.seq (.reg none [oS 3 (.mv (.t 0))]) (.block 0 (.seq (.reg none [oS 5 (.bin .eql (.t 3) (.c (.int .i64 1))),oS 4 (.mv (.t 5))]) (.cond (.t 4) (.seq (.reg none [oS 2 (.mv (.c (.str [99,111,109,109,105,116])))]) .ret) (.seq (.reg none [oS 7 (.bin .eql (.t 3) (.c (.int .i64 2))),oS 6 (.mv (.t 7))]) (.cond (.t 6) (.seq (.reg none [oS 2 (.mv (.c (.str [116,114,101,101])))]) .ret) (.seq (.reg none [oS 9 (.bin .eql (.t 3) (.c (.int .i64 3))),oS 8 (.mv (.t 9))]) (.cond (.t 8) (.seq (.reg none [oS 2 (.mv (.c (.str [98,108,111,98])))]) .ret) (.seq (.reg none [oS 11 (.bin .eql (.t 3) (.c (.int .i64 4))),oS 10 (.mv (.t 11))]) (.cond (.t 10) (.seq (.reg none [oS 2 (.mv (.c (.str [116,97,103])))]) .ret) .skip)))))))))) (.seq (.reg none [oS 2 (.mv (.c (.str [])))]) .ret)))
def r_rword:List ARes:=[(.t 2)]
theorem s_rword:slimF Tryd.prog Tryd.f12=some (c_rword,r_rword):=by kernel_rfl
theorem rword_ok:FnOk Tryd.prog 12 wordS:=by
 refine fn_slim2 Tryd.func12 s_rword (Φ:=phiL []) phi_nil ?_
 intro xs hp r hs hp'
 unfold wordS at hs
 split at hs
 ·injection hs with hs; subst hs
  rename_i k
  refine ⟨len_le (by kernel_rfl),?_⟩
  simp only [c_rword,r_rword,go_sem,reduceDiv,reduceMod,↓reduceIte,reduceEqDiff,Nat.reduceBEq,reduceSub,Nat.reduceLT,reduceAdd,reduceLeDiff,reduceCtorEq,Int.reduceEq,Int.reduceNe,Int.reduceLT,Int.reduceLE,Int.reduceToNat]
  refine ⟨fun h=>by rw [of_decide_eq_true h]; rfl,fun h1=>⟨fun h=>by rw [of_decide_eq_true h]; rfl,fun h2=>⟨fun h=>by rw [of_decide_eq_true h]; rfl,fun h3=>⟨fun h=>by rw [of_decide_eq_true h]; rfl,fun h4=>?_⟩⟩⟩⟩
  have h1:=of_decide_eq_false h1
  have h2:=of_decide_eq_false h2
  have h3:=of_decide_eq_false h3
  have h4:=of_decide_eq_false h4
  rw [wordL_out (by omega)]
 ·cases hs
def b_okind_0:ACode:=(.seq (.seq (.reg none [oS 4 (.mv (.t 3)),oS 5 (.bin .leq (.t 4) (.c (.int .i64 4)))]) (.cond (.t 5) .skip (.exit 0))) (.seq (.block 1 (.seq (.reg none [oS 8 (.mv (.t 3)),oS 9 (.call 25 [(.t 8)]),oS 10 (.mv (.t 0)),oS 11 (.bin .eql (.t 9) (.t 10))]) (.cond (.t 11) (.seq (.reg none [oS 12 (.mv (.t 3)),oS 2 (.mv (.t 12))]) .ret) .skip))) (.reg none [oS 6 (.mv (.t 3)),oS 7 (.bin .add (.t 6) (.c (.int .i64 1))),oS 3 (.mv (.t 7))])))
def t_okind_0:ACode:=(.seq (.reg none [oS 2 (.mv (.c (.int .i64 0)))]) .ret)
def c_okind:ACode:=(.seq (.reg none [oS 2 (.mv (.c (.int .i64 0)))]) (.seq (.seq (.reg none [oS 3 (.mv (.c (.int .i64 1)))]) (.block 0 (.loop b_okind_0))) t_okind_0))
def r_okind:List ARes:=[(.t 2)]
theorem s_okind:slimF Tryd.prog Tryd.f30=some (c_okind,r_okind):=by kernel_rfl
def kindN (s:List UInt8):Int:=if wordL 1=s then 1 else if wordL 2=s then 2 else if wordL 3=s then 3 else if wordL 4=s then 4 else 0
theorem kindN_at {s:List UInt8} {k:Nat} (h1:1≤k) (h2:k≤4) (h:wordL k=s):kindN s=k:=by
 subst h
 match k,h1,h2 with
 | 1,_,_=>rfl
 | 2,_,_=>rfl
 | 3,_,_=>rfl
 | 4,_,_=>rfl
theorem kindN_no {s:List UInt8} (h:∀ j:Nat,1≤j→j<5→wordL j≠s):kindN s=0:=by
 unfold kindN
 have e1:wordL 1≠s:=h 1 (by omega) (by omega)
 have e2:wordL 2≠s:=h 2 (by omega) (by omega)
 have e3:wordL 3≠s:=h 3 (by omega) (by omega)
 have e4:wordL 4≠s:=h 4 (by omega) (by omega)
 rw [if_neg e1,if_neg e2,if_neg e3,if_neg e4]
def kindS:Spec:=fun xs hp=>match xs,hp with
 | [.str s],[]=>some ⟨.int .i64 (kindN s),[],True⟩
 | _,_=>none
theorem okind_ok:FnOk Tryd.prog 30 kindS:=by
 refine fn_slim2 Tryd.func30 s_okind (Φ:=phiL [(25,[],wordS)]) (phi_cons oword_ok (by kernel_rfl) phi_nil) ?_
 intro xs hp r hs hp'
 unfold kindS at hs
 split at hs
 ·injection hs with hs; subst hs
  rename_i s
  refine ⟨len_le (by kernel_rfl),?_⟩
  simp only [c_okind,go_sem,reduceDiv,reduceMod,↓reduceIte,reduceEqDiff,Nat.reduceBEq,reduceSub,Nat.reduceLT,reduceAdd,reduceLeDiff,reduceCtorEq,Int.reduceEq,Int.reduceNe,Int.reduceLT,Int.reduceLE,Int.reduceToNat]
  refine loop2P [] [0,3] [] (fun k:Nat=>⟨[(0,.str s),(3,.int .i64 (k:Int))],[]⟩) (fun k=>1≤k∧k≤5∧∀ j:Nat,1≤j→j<k→wordL j≠s) (fun k=>5 - k) 1 rfl ⟨by omega,by omega,by omega⟩ ⟨rfl,rfl⟩ (fun k hk R hR=>?_)
  obtain ⟨k1,k2,k3⟩:=hk
  simp only [b_okind_0,t_okind_0,r_okind,wordS,go_sem,reduceDiv,reduceMod,↓reduceIte,reduceEqDiff,Nat.reduceBEq,reduceSub,Nat.reduceLT,reduceAdd,reduceLeDiff,reduceCtorEq,Int.reduceEq,Int.reduceNe,Int.reduceLT,Int.reduceLE,Int.reduceToNat]
  refine ⟨fun h=>⟨fun e=>?_,fun e=>?_⟩,fun h=>?_⟩
  ·have h:=of_decide_eq_true h
   have e:=of_decide_eq_true e
   rw [kindN_at k1 (by omega) e]
  ·have h:=of_decide_eq_true h
   have e:=of_decide_eq_false e
   refine ⟨by (first | omega | (simp only [lenOk,bytesOk,inI,IntKind.bits,List.length_append,Bs_len,List.length_cons,List.length_nil,List.length_map,List.length_take,List.length_drop,List.length_replicate]; omega)),hR _ (k+1) ⟨by omega,by omega,fun j j1 j2=>?_⟩ (by omega) rfl⟩
   rcases Nat.lt_or_ge j k with hj | hj
   ·exact k3 j j1 hj
   ·rw [show j=k by omega]; exact e
  ·have h:=of_decide_eq_false h
   rw [kindN_no fun j j1 j2=>k3 j j1 (by omega)]
 ·cases hs
def c_ndec:ACode:=(.seq (.reg none [oS 2 (.mv (.c (.str [])))]) (.seq (.reg none [oS 3 (.mv (.t 0)),oS 4 (.call 53 [(.t 3)]),oS 2 (.mv (.t 4))]) .ret))
def r_ndec:List ARes:=[(.t 2)]
theorem s_ndec:slimF Tryd.prog Tryd.f46=some (c_ndec,r_ndec):=by kernel_rfl
theorem ndec_ok:FnOk Tryd.prog 46 itoaS:=by
 refine fn_slim2 Tryd.func46 s_ndec (Φ:=phiL [(53,[],itoaS)]) (phi_cons itoa_ok (by kernel_rfl) phi_nil) ?_
 intro xs hp r hs hp'
 unfold itoaS at hs
 split at hs
 ·injection hs with hs; subst hs
  rename_i k
  refine ⟨len_le (by kernel_rfl),?_⟩
  simp only [c_ndec,r_ndec,itoaS,go_sem,reduceDiv,reduceMod,↓reduceIte,reduceEqDiff,Nat.reduceBEq,reduceSub,Nat.reduceLT,reduceAdd,reduceLeDiff,reduceCtorEq,Int.reduceEq,Int.reduceNe,Int.reduceLT,Int.reduceLE,Int.reduceToNat]
  first | exact hp' | exact ⟨hp',rfl⟩ | trivial
 ·cases hs
end Go.Proofs.YtakolikdebfkeaaDoor
