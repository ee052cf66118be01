import Derived.Test.YtakolikdebfkeaaGreatDoorQFItoa
import Derived.Test.YtakolikdebfkeaaGreatDoorChecked
import Derived.Test.YtakolikdebfkeaaGreatDoorQFDfl1
import Derived.Test.YtakolikdebfkeaaGreatDoorQAMS
import Derived.Test.YtakolikdebfkeaaGreatDoorQFR3g
import Derived.Test.YtakolikdebfkeaaGreatDoorQInfLaw5
import Derived.Test.YtakolikdebfkeaaGreatDoorQAM9
open Nat (reduceDiv reduceMod reduceSub reduceAdd reduceLeDiff reduceEqDiff)
set_option linter.all false
namespace Go.Proofs.YtakolikdebfkeaaGreatDoor
open Go.RowKit
open Go.Lib (itoa atoiAll)
def atoiR (s:List UInt8):Lib.NumEnd Int→AV
 | .ok v=>.tup [.int .i64 v,.con .nilIface]
 | .range=>.tup [.int .i64 (Lib.atoiSat s),.iface 221 .top]
 | _=>.tup [.int .i64 0,.iface 221 .top]
def atoiS:Spec:=fun xs hp=>match xs,hp with
 | [.str s],[]=>some ⟨atoiR s (atoiAll s),[],s.length≤281474976710656⟩
 | _,_=>none
theorem tup2 {w:World} {S:Nat→Prop} {ρ:Rho} {x y:AV} {u v:Value} (hx:Vl1 w S ρ x u) (hy:Vl1 w S ρ y v):Vl w S ρ (.tup [x,y]) (.tuple #[u,v]) :=
 ⟨[u,v],rfl,rfl,fun i hi=>by
  match i,hi with
  | 0,_=>exact hx
  | 1,_=>exact hy⟩
theorem ifaceTop {w:World} {S:Nat→Prop} {ρ:Rho} (t:TypeId) (v:Value) (h:v.oneCell' = true):Vl1 w S ρ (.iface t .top) (.iface t v) :=
 .inr ⟨[.iface t v],.iface t .top [v] (.top _ fun u hu=>by simp only [List.mem_singleton] at hu; subst hu; exact h),rfl⟩
theorem err_cell {w:World} {S:Nat→Prop} {g:Nat} {t:TypeId} {l:List UInt8} (h:GlobOk w S) (hg:glob1 g globs=some (1,.iface t (.ptr 1 (.str l) 0 0))):∃ ev,w.cell? ⟨g,0,none⟩=some ev∧∃ te pe,ev=.iface te pe:=by
 obtain ⟨_,us,ty,fr,h2,_,h4⟩:=h.1 _ _ _ hg
 cases h2 with
 | iface _ _ vs _=>exact ⟨_,by rw [cell_of_row w g 0 _ ty fr h4]; rfl,_,_,rfl⟩
theorem atoi_ok:FnOk Tryz.prog 92 atoiS:=by
 refine fnok_of_calls fun xs0 hp r hs hp' => ?_
 unfold atoiS at hs
 split at hs
 ·rename_i s
  injection hs with hs; subst hs
  refine ⟨rfl,rfl,fun w S ρ args hS ha=>?_⟩
  obtain ⟨v,vs,rfl,hv,hr⟩:=ha.get _ _ rfl
  obtain rfl:=hr.none
  rw [hv.str]
  have hsz:(⟨s.toArray⟩:ByteArray).size=s.length:=rfl
  have hl:s.length≤281474976710656:=hp'
  rcases h:atoiAll s with v | _ | _
  ·refine (Tryz.strconv_Atoi_ok ⟨s.toArray⟩ (by rw [hsz]; omega) v h w).mono ?_
   rintro e w' ⟨rfl,hw⟩
   refine ⟨_,rfl,?_,fun _ _ _=>tup2 (.inr ⟨_,.int _ _,rfl⟩) (.inr ⟨_,.con _ rfl,rfl⟩)⟩
   rcases hw with rfl | ⟨t,rfl⟩
   ·exact Below.refl _ _
   ·exact Lib.bytesWorld_below _ _ _
  ·obtain ⟨ev,h1,te,pe,h2⟩:=err_cell ha.glob (g:=1) rfl
   refine (Tryz.strconv_Atoi_syntax ⟨s.toArray⟩ (by rw [hsz]; omega) (h.trans rfl) ev w h1 (.inr ⟨te,pe,h2⟩)).mono ?_
   rintro e w' ⟨N,rfl,_,_,hb⟩
   exact ⟨_,rfl,hb,fun _ _ _=>tup2 (.inr ⟨_,.int _ _,rfl⟩) (ifaceTop _ _ rfl)⟩
  ·obtain ⟨ev,h1,te,pe,h2⟩:=err_cell ha.glob (g:=2) rfl
   refine (Tryz.strconv_Atoi_range ⟨s.toArray⟩ (by rw [hsz]; omega) h ev w h1 (.inr ⟨te,pe,h2⟩)).mono ?_
   rintro e w' ⟨N,rfl,_,_,hb⟩
   exact ⟨_,rfl,hb,fun _ _ _=>tup2 (.inr ⟨_,.int _ _,rfl⟩) (ifaceTop _ _ rfl)⟩
 ·cases hs
end Go.Proofs.YtakolikdebfkeaaGreatDoor
namespace Go.Proofs.YtakolikdebfkeaaGreatDoor
open Go.RowKit
def c_right:ACode:=(.seq (.reg none [oS 2 (.mv (.c (.bool false)))]) (.seq (.reg none [oS 3 (.mv (.t 0)),oS 4 (.bin .geq (.t 3) (.c (.int .i64 0))),oS 5 (.mv (.t 4)),oG 6 (.mv (.t 0)) 5,oG 7 (.bin .lss (.t 6) (.c (.int .i64 4611686018427387904))) 5,oS 8 (.pick (.t 5) (.t 7) (.c (.bool false))),oS 2 (.mv (.t 8))]) .ret))
def r_right:List ARes:=[(.t 2)]
theorem s_right:slimF Tryz.prog Tryz.f93=some (c_right,r_right):=by kernel_rfl
theorem okN_ex:∃ f:Int→Bool,∀ n,f n=decide (0≤n∧n<4611686018427387904):=⟨fun n=>decide (0≤n∧n<4611686018427387904),fun _=>rfl⟩
noncomputable def okN:Int→Bool:=Classical.choose okN_ex
theorem okN_eq (n:Int):okN n=decide (0≤n∧n<4611686018427387904):=Classical.choose_spec okN_ex n
theorem okN_t {n:Int} (h:okN n=true):0≤n∧n<4611686018427387904:=of_decide_eq_true (by rw [← okN_eq]; exact h)
theorem okN_mk {n:Int} (h:0≤n) (h' : n<4611686018427387904):okN n=true:=by rw [okN_eq]; exact decide_eq_true ⟨h,h'⟩
theorem okN_no {n:Int} (h:n<0∨4611686018427387904≤n):okN n=false:=by rw [okN_eq]; exact decide_eq_false (by omega)
noncomputable def rightS:Spec:=fun xs hp=>match xs,hp with
 | [.int .i64 n],[]=>some ⟨.bool (okN n),[],True⟩
 | _,_=>none
theorem right_ok:FnOk Tryz.prog 93 rightS:=by
 refine fn_slim Tryz.func93 s_right (Φ:=phiL []) phi_nil ?_
 intro xs hp r hs hp'
 unfold rightS at hs
 split at hs
 ·injection hs with hs; subst hs
  rename_i n
  refine ⟨len_le (by kernel_rfl),?_⟩
  simp only [c_right,r_right,awp_scope,noG_n,noG_r,noG_x,awp_skip,awp_reg,awp_draw,awp_seq,awp_cond,awp_block,awp_loop,awp_exit,awp_ret,arun_nil,arun_op,arun_gt,arun_gf,arunD_nil,arunD_op,arunD_gt,arunD_gf,aq_some,isB_t,isB_u,isB_f,isB_g,isB_p,isU_t,isU_b,ifB_t,ifB_f,thenQ_n,thenQ_x,thenQ_r,inQ_n,inQ_r,inQ_x,retQ_n,retQ_r,exD,AOp.isH,keepN,preB,avalP,pureR,astep,stV,stN,stE,stC,aval,anew,aElems,frzS,frzH,aeff,slots,aret,ares,aress,AV.isTup,eqFs,aEqS,ofC_i,ofC_b,ofC_s,ofC_U,getD_mapU,getD_Bs,Bs_len,Int.toNat_natCast,opd,pt,tk,subp,rdP,Rt.size,Rt.isAgg,Rt.zv,aBin,aInt,aStr,arI,aUn,aToInt,aToStr,aIdxS,zv,aIdxA,aIa,aIaA,aFa,aLd,aFld,pparts,aLo,aHi,cutL,aSlS,aSl,aExt,aNck,aNilc,AV.isStr,aLen,AV.one,AV.multi,pureB,szOk,psz,drp,spl,aEqB,aEqA,aMm,aMkfn,aMkif,aBuild,toV,aBuildA,wrP,unparts,view,nilS,St.ev,lk,St.put,St.pin,St.pinV,acall0,acall1,acall2,acall3,bor,bor0,bor1,phiL_nil,phiL_at,tau,lentO,okIds,flatC,flatB,flatOs,flatO,flatPs,place,setAll_nil,setAll_cons,nodupB,renObj,closeIds,addNew,idsOf,idsObj,posOf,lenOk_0,lenOk_1,lenOk_2,lenOk_3,lenOk_4,lenOk_8,↓reduceIte,Option.isSome_none,Option.isSome_some,Bool.or_true,Bool.true_or, reduceEqDiff,Nat.reduceBEq,reduceSub,Nat.reduceLT,beq_self_eq_true,List.map,List.set,List.map_cons,List.map_nil,List.flatMap_cons,List.flatMap_nil,List.flatten_cons,List.flatten_nil,true_and,and_true,List.length_cons,List.length_nil,reduceAdd,reduceLeDiff,List.nil_append,List.cons_append,List.append_nil,Option.map,mapO,ren,kp,kpI,ent,nilG,Option.bind,List.range,List.range.loop,List.getElem?_cons_zero,List.getElem?_cons_succ,List.getElem?_nil,List.getD_cons_zero,List.getD_cons_succ,List.drop_zero,List.drop_succ_cons,List.drop_nil,List.take_zero,List.take_succ_cons,List.all_cons,List.all_nil,List.isEmpty_nil,List.isEmpty_cons,Bool.and_true,Bool.true_and,Bool.not_true,Bool.not_false,List.contains_nil,reduceCtorEq,List.contains_cons,Bool.or_false,Bool.false_or,eq_self,forall_const,false_implies,Bool.false_eq_true,Nat.le_refl,List.length_map,List.length_set,List.length_replicate,and_self,implies_true]
  refine ⟨fun h=>?_,fun h=>?_⟩
  ·have h1:=of_decide_eq_true h
   simp only [h,Bool.false_eq_true,renObj,finP,finI,closeIds,addNew,idsOf,List.flatMap_nil,List.flatMap_cons,List.append_nil,List.nil_append,List.take_zero,nodupB,posOf,idsObj,List.getD_cons_zero,List.getD_cons_succ,List.range,List.range.loop,ren,lentO,mapO,Option.map,↓reduceIte,reduceEqDiff,true_and,and_true,List.getElem?_cons_zero,List.getElem?_cons_succ,reduceAdd,List.contains_nil,Bool.not_false,Bool.and_true,List.map_nil,List.map_cons,List.take_succ_cons]
   have:okN n=decide (n<4611686018427387904):=by rw [okN_eq]; simp [h1]
   rw [this]
  ·have h1:=of_decide_eq_false h
   simp only [h,Bool.false_eq_true,renObj,finP,finI,closeIds,addNew,idsOf,List.flatMap_nil,List.flatMap_cons,List.append_nil,List.nil_append,List.take_zero,nodupB,posOf,idsObj,List.getD_cons_zero,List.getD_cons_succ,List.range,List.range.loop,ren,lentO,mapO,Option.map,↓reduceIte,reduceEqDiff,true_and,and_true,List.getElem?_cons_zero,List.getElem?_cons_succ,reduceAdd,List.contains_nil,Bool.not_false,Bool.and_true,List.map_nil,List.map_cons,List.take_succ_cons]
   have:okN n=false:=okN_no (by omega)
   rw [this]
 ·cases hs
end Go.Proofs.YtakolikdebfkeaaGreatDoor
namespace Go.Proofs.YtakolikdebfkeaaGreatDoor
open Go.RowKit
open Go.Lib (decDigits itoa atoiAll)
noncomputable def decB:List UInt8→Bool:=sealF fun s=>(decV s).isSome
noncomputable def decN:List UInt8→Nat:=sealF fun s=>(decV s).getD 0
theorem decBN_some {s:List UInt8} {n:Nat} (h:decV s=some n):decB s=true∧decN s=n:=by
 unfold decB decN; rw [sealF_eq,sealF_eq]; simp only [h]; exact ⟨rfl,rfl⟩
theorem decB_none {s:List UInt8} (h:decV s=none):decB s=false:=by
 unfold decB; rw [sealF_eq]; simp only [h]; rfl
theorem decB_t {s:List UInt8} (h:decB s=true):decV s=some (decN s):=by
 cases h' : decV s with
 | none=>rw [decB_none h'] at h; cases h
 | some n=>rw [(decBN_some h').2]
theorem decB_no {s:List UInt8} (h:∀ v,atoiAll s≠.ok v):decB s=false:=by
 apply decB_none; unfold decV; split
 ·rename_i v e; exact absurd e (h v)
 ·rfl
theorem decB_ok1 {s:List UInt8} {v:Int} (h:atoiAll s=.ok v) (h0:okN v=true) (h1:itoa v=s):decB s=true∧(decN s:Int)=v:=by
 obtain ⟨k1,k2⟩:=okN_t h0
 have e:decV s=some v.toNat:=by unfold decV; rw [h]; exact if_pos ⟨k1,k2,h1⟩
 obtain ⟨a,b⟩:=decBN_some e
 exact ⟨a,by omega⟩
theorem decB_ok0 {s:List UInt8} {v:Int} (h:atoiAll s=.ok v) (h1:okN v=false∨itoa v≠s):decB s=false:=by
 apply decB_none; unfold decV; rw [h]
 refine if_neg ?_
 rintro ⟨a,b,c⟩
 rcases h1 with h1 | h1
 ·rw [okN_mk a b] at h1; cases h1
 ·exact h1 c
def c_fdec:ACode:=(.seq (.reg none [oS 2 (.mv (.c (.int .i64 0))),oS 3 (.mv (.c (.int .i64 0)))]) (.seq (.reg none [oS 7 (.mv (.t 0)),oS 8 (.call 92 [(.t 7)]),oS 6 (.mv (.t 8)),oS 9 (.ext (.t 6) 0),oS 10 (.ext (.t 6) 1),oS 4 (.mv (.t 9)),oS 5 (.mv (.t 10))]) (.seq (.seq (.reg none [oS 11 (.mv (.t 5)),oS 12 (.nilc 0 true (.t 11)),oS 13 (.mv (.t 12)),oH 14 (.mv (.t 4)) 13,oH 15 (.call 93 [(.t 14)]) 13,oH 16 (.un .not (.t 15)) 13,oS 17 (.pick (.t 13) (.c (.bool true)) (.t 16)),oS 18 (.mv (.t 17)),oH 19 (.mv (.t 4)) 18,oH 20 (.call 94 [(.t 19)]) 18,oH 21 (.mv (.t 0)) 18,oH 22 (.bin .neq (.t 20) (.t 21)) 18,oS 23 (.pick (.t 18) (.c (.bool true)) (.t 22))]) (.cond (.t 23) (.seq (.reg none [oS 2 (.mv (.c (.int .i64 0))),oS 3 (.mv (.c (.int .i64 4)))]) .ret) .skip)) (.seq (.reg none [oS 24 (.mv (.t 4)),oS 2 (.mv (.t 24)),oS 3 (.mv (.c (.int .i64 0)))]) .ret))))
def r_fdec:List ARes:=[(.t 2),(.t 3)]
theorem s_fdec:slimF Tryz.prog Tryz.f46=some (c_fdec,r_fdec):=by kernel_rfl
noncomputable def fdecS:Spec:=fun xs hp=>match xs,hp with
 | [.str s],[]=>if decB s=true then some ⟨.tup [.int .i64 (decN s:Int),.int .i64 0],[],s.length≤281474976710656⟩ else some ⟨.tup [.int .i64 0,.int .i64 4],[],s.length≤281474976710656⟩
 | _,_=>none
theorem fdec_ok:FnOk Tryz.prog 46 fdecS:=by
 refine fn_slim2 Tryz.func46 s_fdec (Φ:=phiL [(92,[],atoiS),(93,[],rightS),(94,[],itoaS)]) (phi_cons atoi_ok (by kernel_rfl) (phi_cons right_ok (by kernel_rfl) (phi_cons itoa_ok (by kernel_rfl) phi_nil))) ?_
 intro xs hp r hs hp'
 unfold fdecS at hs
 split at hs
 ·rename_i s
  refine ⟨len_le (by kernel_rfl),?_⟩
  rcases h:atoiAll s with v | _ | _
  ·cases ho:okN v with
   | true =>
    obtain ⟨k1,k2⟩:=okN_t ho
    have hin:inI v:=by (first | omega | (simp only [inI]; omega))
    by_cases hi:itoa v=s
    ·obtain ⟨e1,e2⟩:=decB_ok1 h ho hi
     rw [if_pos e1] at hs; injection hs with hs; subst hs
     have d1:decide (itoa v=s)=true:=decide_eq_true hi
     simp only [c_fdec,r_fdec,atoiS,rightS,itoaS,atoiR,h,ho,e2,d1,go_sem,reduceDiv,reduceMod,↓reduceIte,reduceEqDiff,Nat.reduceLT,reduceAdd]
     exact ⟨hp',hin⟩
    ·have e1:=decB_ok0 h (.inr hi)
     rw [if_neg (by rw [e1]; simp)] at hs; injection hs with hs; subst hs
     have d1:decide (itoa v=s)=false:=decide_eq_false hi
     simp only [c_fdec,r_fdec,atoiS,rightS,itoaS,atoiR,h,ho,d1,go_sem,reduceDiv,reduceMod,↓reduceIte,reduceEqDiff,Nat.reduceLT,reduceAdd]
     exact ⟨hp',hin⟩
   | false =>
    have e1:=decB_ok0 h (.inl ho)
    rw [if_neg (by rw [e1]; simp)] at hs; injection hs with hs; subst hs
    simp only [c_fdec,r_fdec,atoiS,rightS,atoiR,h,ho,go_sem,reduceDiv,reduceMod,↓reduceIte,reduceEqDiff,Nat.reduceLT,reduceAdd]
    exact hp'
  ·have e1:=decB_no (s:=s) (by intro v; rw [h]; simp)
   rw [if_neg (by rw [e1]; simp)] at hs; injection hs with hs; subst hs
   simp only [c_fdec,r_fdec,atoiS,atoiR,h,go_sem,reduceDiv,reduceMod,↓reduceIte,Nat.reduceLT,reduceAdd]
   exact hp'
  ·have e1:=decB_no (s:=s) (by intro v; rw [h]; simp)
   rw [if_neg (by rw [e1]; simp)] at hs; injection hs with hs; subst hs
   simp only [c_fdec,r_fdec,atoiS,atoiR,h,go_sem,reduceDiv,reduceMod,↓reduceIte,Nat.reduceLT,reduceAdd]
   exact hp'
 ·cases hs
end Go.Proofs.YtakolikdebfkeaaGreatDoor
namespace Go.Proofs.YtakolikdebfkeaaGreatDoor
open Go.RowKit
open Go.Lib (itoa decDigits)
theorem dec_dig (n:Nat):∀ x∈decDigits n,48≤x.toNat∧x.toNat≤57:=by
 induction n using Nat.strongRecOn with
 | _ n ih =>
  intro x hx
  by_cases h:n<10
  ·rw [decD_small h,List.mem_singleton] at hx
   subst hx; rw [dc_toNat h]; omega
  ·rw [decD_big (by omega),List.mem_append,List.mem_singleton] at hx
   rcases hx with hx | rfl
   ·exact ih (n / 10) (by omega) x hx
   ·rw [dc_toNat (by omega)]; omega
theorem itoa_decN {s:List UInt8} (h:decB s=true):itoa (decN s:Int)=s:=by
 rw [itoa_nat]; exact (decV_some (decB_t h)).1.symm
theorem decB_nil:decB []=false:=by
 cases h:decB [] with
 | false=>rfl
 | true =>
  have:=itoa_decN h
  rw [itoa_nat] at this
  have hl:=dec_dig (decN [])
  cases hd:decDigits (decN []) with
  | nil =>
   by_cases hn:decN []<10
   ·rw [decD_small hn] at hd; cases hd
   ·rw [decD_big (by omega)] at hd; simp at hd
  | cons x l=>rw [hd] at this; cases this
end Go.Proofs.YtakolikdebfkeaaGreatDoor
namespace Go.Proofs.YtakolikdebfkeaaGreatDoor
open Go.RowKit
open Go.Lib (itoa decDigits cut)
variable {td : List Bool → Nat → RdE (List Nat × List Nat)}
noncomputable def objX (all:Bool) (x:List UInt8):Except Nat (Int × List UInt8) :=
 if all=false∨(cut x [0]).2.2=false∨(cut (cut x [0]).1 [32]).2.2=false∨kindN (cut (cut x [0]).1 [32]).1=0∨decB (cut (cut x [0]).1 [32]).2.1=false∨decN (cut (cut x [0]).1 [32]).2.1≠(cut x [0]).2.1.length then .error 4
 else if 16777216<(cut x [0]).2.1.length then .error 2 else .ok (kindN (cut (cut x [0]).1 [32]).1,(cut x [0]).2.1)
noncomputable def objE (td:List Bool→Nat→RdE (List Nat × List Nat)) (b:List UInt8):Except Nat (Int × List UInt8):=match zopenE td b 16777236 with
 | .error e=>.error e
 | .ok (x,n)=>objX (decide (b.length≤n)) x
theorem word_mem (k:Int):∀ c∈wordL k,97≤c.toNat:=by unfold wordL; split <;> simp
theorem front_cut {k:Int} (hk:wordL k≠[]) {body:List UInt8}:cut (frontL k body.length ++ body) [0]=(wordL k ++ 32 :: itoa (body.length:Int),body,true):=by
 have e:frontL k body.length ++ body=(wordL k ++ 32 :: itoa (body.length:Int)) ++ 0 :: body:=by unfold frontL; simp [List.append_assoc]
 rw [e]
 refine cut_1 ?_
 intro h
 rcases List.mem_append.1 h with h | h
 ·have:=word_mem k 0 h; simp at this
 ·rcases List.mem_cons.1 h with h | h
  ·cases h
  ·rw [itoa_nat] at h
   have:=(dec_dig body.length 0 h).1; simp at this
theorem front_cut2 (k:Int) (n:Nat):cut (wordL k ++ 32 :: itoa (n:Int)) [32]=(wordL k,itoa (n:Int),true):=by
 refine cut_1 ?_
 intro h
 have:=word_mem k 32 h; simp at this
theorem kind_word {k:Int} (hk:wordL k≠[]):kindN (wordL k)=k∧1≤k∧k≤4:=by
 have h1:1≤k∧k≤4:=by
  by_cases h:k<1∨4<k
  ·exact absurd (wordL_out h) hk
  ·omega
 obtain ⟨j,rfl⟩:∃ j:Nat,k=(j:Int):=⟨k.toNat,by omega⟩
 exact ⟨kindN_at (by omega) (by omega) rfl,h1⟩
end Go.Proofs.YtakolikdebfkeaaGreatDoor
namespace Go.Proofs.YtakolikdebfkeaaGreatDoor
open Go.RowKit
def c_owhole:ACode:=(.seq (.reg none [oS 4 (.mv (.c (.con (.slice none 0 0))))]) (.seq (.reg none [oS 6 (.mv (.t 0)),oS 7 (.call 53 [(.t 6)]),oS 8 (.bytes 5 (.t 7)),oS 9 (.buildSl 5 1 [(.c (.int .u8 32))]),oS 10 (.app 5 1 1 (.t 8) (.t 9)),oS 5 (.mv (.t 10))]) (.seq (.reg none [oS 11 (.mv (.t 5)),oS 12 (.mv (.t 1)),oS 13 (.len none false (.t 12)),oS 14 (.call 96 [(.t 13)]),oS 15 (.appS 5 (.t 11) (.t 14)),oS 5 (.mv (.t 15))]) (.seq (.reg none [oS 16 (.mv (.t 5)),oS 17 (.buildSl 5 1 [(.c (.int .u8 0))]),oS 18 (.app 5 1 1 (.t 16) (.t 17)),oS 19 (.mv (.t 1)),oS 20 (.app 5 1 1 (.t 18) (.t 19)),oS 4 (.mv (.t 20))]) .ret))))
def r_owhole:List ARes:=[(.t 4)]
theorem s_owhole:slimF Tryz.prog Tryz.f49=some (c_owhole,r_owhole):=by kernel_rfl
end Go.Proofs.YtakolikdebfkeaaGreatDoor
namespace Go.Proofs.YtakolikdebfkeaaGreatDoor
open Go.RowKit
open Go.Lib (itoa)
def wholeS:Spec:=fun xs hp=>match xs,hp with
 | [.int .i64 k,.sl 1 bs],[]=>some ⟨.own 0 4,[.row 5 1 4 (Bs (frontL k (unB bs).length ++ unB bs))],bs=Bs (unB bs)∧bs.length≤1000000000000⟩
 | _,_=>none
theorem whole_ok:FnOk Tryz.prog 49 wholeS:=by
 refine fn_slim2 Tryz.func49 s_owhole (Φ:=phiL [(53,[],wordS),(96,[],itoaS)]) (phi_cons rword_ok (by kernel_rfl) (phi_cons rdec_ok (by kernel_rfl) phi_nil)) ?_
 intro xs hp r hs hp'
 unfold wholeS at hs
 split at hs
 ·injection hs with hs; subst hs
  rename_i k bs
  obtain ⟨p1,p2⟩:=hp'
  refine ⟨len_le (by kernel_rfl),?_⟩
  generalize unB bs=l at *
  subst p1
  rw [Bs_len] at p2
  have l1:=wordL_len k
  have l2:=itoaN_len l.length p2
  simp only [c_owhole,r_owhole,wordS,itoaS,go_sem,reduceDiv,reduceMod,↓reduceIte,reduceEqDiff,reduceAdd]
  simp only [List.length_append,Bs_len,List.length_cons,List.length_nil]
  repeat' apply And.intro
  all_goals first | omega | (first | omega | (simp only [lenOk,bytesOk]; omega)) | (simp [frontL,Bs,ub]; done) | skip
 ·cases hs
def known9S:Spec:=fun xs hp=>match xs,hp with
 | [],[]=>some ⟨.bool true,[],True⟩
 | _,_=>none
theorem itoa_0:itoa ((0:Nat):Int)=[48]:=by rw [itoa_nat]; first | decide | (rw [Lib.decDigits]; rfl) | (unfold Lib.decDigits; simp; done)
theorem front30:frontL 3 0=[98,108,111,98,32,48,0]:=by unfold frontL; rw [itoa_0]; rfl
theorem sha_blob:hexL (sha [98,108,111,98,32,48,0])=[101,54,57,100,101,50,57,98,98,50,100,49,100,54,52,51,52,98,56,98,50,57,97,101,55,55,53,97,100,56,99,50,101,52,56,99,53,51,57,49]:=by kernel_rfl
theorem idR30 (pr:Prop):idR 3 [] pr=some ⟨.tup [.blob ((sha [98,108,111,98,32,48,0]).map U),.int .i64 0],[],pr⟩:=by
 unfold idR
 rw [if_neg (by simp [wordL]),if_neg (by simp)]
 rw [List.length_nil,front30]; rfl
theorem known9_ok:FnOk Tryz.prog 12 known9S:=by
 refine fn_slim2 Tryz.func12 s_known9 (Φ:=phiL [(40,[],idS),(41,[],hexS),(42,[],wordS),(43,[],pathS)]) (phi_cons id_ok (by kernel_rfl) (phi_cons hex_ok (by kernel_rfl) (phi_cons oword_ok (by kernel_rfl) (phi_cons path_ok (by kernel_rfl) phi_nil)))) ?_
 intro xs hp r hs hp'
 unfold known9S at hs
 split at hs
 ·injection hs with hs; subst hs
  refine ⟨len_le (by kernel_rfl),?_⟩
  have e0:unB []=[]:=rfl
  have e1:=sha_blob
  have e2:=sha_len20 [98,108,111,98,32,48,0]
  simp only [c_known9,r_known9,idS,e0,idR30,go_sem,reduceDiv,reduceMod,↓reduceIte,reduceEqDiff,reduceSub,Nat.reduceLT,reduceAdd,reduceLeDiff,reduceCtorEq]
  generalize sha [98,108,111,98,32,48,0]=id at *
  simp only [hexS,wordS,pathS,unV_U,e1,e2,wordL,pathL,decide_true,go_sem,reduceDiv,reduceMod,↓reduceIte,reduceEqDiff,reduceAdd]
  trivial
 ·cases hs
end Go.Proofs.YtakolikdebfkeaaGreatDoor
namespace Go.Proofs.YtakolikdebfkeaaGreatDoor
theorem packB_get:∀ (k:Nat) (W:List Bool) (i:Nat),W.length<k→(packB k W)[i]?=if 8 * i<W.length then some (UInt8.ofNat (valB ((W.drop (8 * i)).take 8))) else none
 | k+1,W,i,h=>by
  unfold packB
  by_cases hW:W=[]
  ·subst hW; rw [if_pos rfl]; simp
  ·have hl:0<W.length:=by
    cases W with
    | nil=>exact absurd rfl hW
    | cons _ _=>simp
   rw [if_neg hW]
   cases i with
   | zero=>rw [List.getElem?_cons_zero,if_pos (by omega)]; rfl
   | succ i =>
    rw [List.getElem?_cons_succ,packB_get k (W.drop 8) i (by rw [List.length_drop]; omega),List.length_drop,List.drop_drop,show 8+8 * i=8 * (i+1) by omega]
    by_cases h2:8 * (i+1)<W.length
    ·rw [if_pos h2,if_pos (by omega)]
    ·rw [if_neg h2,if_neg (by omega)]
theorem packW_get (W:List Bool) (i:Nat):(packW W)[i]?=if 8 * i<W.length then some (UInt8.ofNat (valB ((W.drop (8 * i)).take 8))) else none:=packB_get _ W i (by omega)
theorem packW_len (W:List Bool):(packW W).length=(W.length+7) / 8:=by obtain ⟨z,_,_,h⟩:=packW_bits W; exact h
theorem valB_snoc:∀ (x:List Bool) (b:Bool),valB (x ++ [b])=valB x+b.toNat * 2 ^ x.length
 | [],b=>by simp [valB]
 | c :: x,b=>by
  rw [List.cons_append,valB,valB,valB_snoc x b,List.length_cons,Nat.pow_succ,Nat.mul_add,← Nat.add_assoc]
  congr 1
  rw [Nat.mul_comm 2,Nat.mul_assoc]
def roomW (W:List Bool):List UInt8:=if W.length % 8=0 then packW W ++ [0] else packW W
theorem put_next (W:List Bool) (x:Bool):W.length / 8<(roomW W).length∧((roomW W).getD (W.length / 8) 0).toNat<2 ^ (W.length % 8) ∧
  packW (W ++ [x])=(roomW W).set (W.length / 8) (UInt8.ofNat (((roomW W).getD (W.length / 8) 0).toNat+x.toNat * 2 ^ (W.length % 8))):=by
 have hlen:=packW_len W
 have hrl:(roomW W).length=W.length / 8+1:=by
  unfold roomW
  split
  ·rw [List.length_append,hlen]; simp; omega
  ·rw [hlen]; omega
 have hdl:(W.drop (8 * (W.length / 8))).length=W.length % 8:=by rw [List.length_drop]; omega
 have hv:=valB_lt (W.drop (8 * (W.length / 8)))
 rw [hdl] at hv
 have h2:(2:Nat) ^ (W.length % 8)≤2 ^ 7:=Nat.pow_le_pow_right (by omega) (by omega)
 have hget:((roomW W).getD (W.length / 8) 0).toNat=valB (W.drop (8 * (W.length / 8))):=by
  unfold roomW
  split
  ·rename_i h0
   have e0:W.drop (8 * (W.length / 8))=[]:=List.drop_eq_nil_iff.2 (by omega)
   rw [e0,List.getD_eq_getElem?_getD,List.getElem?_append_right (by rw [hlen]; omega),hlen,show W.length / 8 - (W.length+7) / 8=0 by omega]; rfl
  ·rename_i h0
   rw [List.getD_eq_getElem?_getD,packW_get,if_pos (by omega),Option.getD_some,List.take_of_length_le (by rw [hdl]; omega),UInt8.toNat_ofNat']
   omega
 refine ⟨by omega,by rw [hget]; exact hv,?_⟩
 refine List.ext_getElem? fun i=>?_
 rw [packW_get,List.length_append,List.length_singleton,List.getElem?_set,hget]
 by_cases hi:W.length / 8=i
 ·subst hi
  rw [if_pos (by omega),if_pos rfl,if_pos (by omega),List.drop_append_of_le_length (by omega),List.take_of_length_le (by rw [List.length_append,hdl]; simp; omega),valB_snoc,hdl]
 ·rw [if_neg hi]
  by_cases hlt:i<W.length / 8
  ·rw [if_pos (by omega),List.drop_append_of_le_length (by omega),List.take_append_of_le_length (by rw [List.length_drop]; omega)]
   unfold roomW
   have hp:(packW W)[i]?=some (UInt8.ofNat (valB ((W.drop (8 * i)).take 8))):=by rw [packW_get,if_pos (by omega)]
   split
   ·rw [List.getElem?_append_left (by rw [hlen]; omega),hp]
   ·rw [hp]
  ·rw [if_neg (by omega),List.getElem?_eq_none (by omega)]
end Go.Proofs.YtakolikdebfkeaaGreatDoor
namespace Go.Proofs.YtakolikdebfkeaaGreatDoor
open Go.RowKit
def dW (n:Int) (ys:List AV):List Bool:=(bitsOf (unB ys)).take n.toNat
theorem dW_pack (W:List Bool):dW (W.length:Int) (Bs (packW W))=W:=by
 obtain ⟨z,h,_⟩:=packW_bits W
 unfold dW
 rw [unB_Bs,h,Int.toNat_natCast,List.take_left']
 rfl
def verW (W:List Bool):Nat:=(packW W).length
def dOk (v rv:Nat) (n:Int) (ys:List AV):Prop:=ys=Bs (packW (dW n ys))∧n=((dW n ys).length:Int)∧v=rv∧rv=verW (dW n ys)∧n≤10000000000
def dbQ (t:TypeId) (W' : List Bool):List AObj:=[.cells t [(1,.own 1 (verW W')),(1,.int .i64 (W'.length:Int))],.row 5 1 (verW W') (Bs (packW W'))]
theorem or8:∀ e:Nat,e<8→∀ a:Nat,a<128→∀ b:Nat,b<2→a<2 ^ e→bits BinOp.or IntKind.u8 (a:Int) (IntKind.u8.wrap ((b:Int) * 2 ^ e))=((a+b * 2 ^ e:Nat):Int):=by decide +kernel
theorem Bs_setN (P:List UInt8) (i m:Nat) (h:m<256):(Bs P).set i (AV.int .u8 (m:Int))=Bs (P.set i (UInt8.ofNat m)):=by
 rw [B_nat m h]
 exact Bs_set
def dputS:Spec:=fun xs hp=>match xs,hp with
 | [.ref 0 0 0,.int .i64 x],[.cells t [(1,.own 1 v),(1,.int .i64 n)],.row 5 1 rv ys]=>some ⟨.tup [],dbQ t (dW n ys ++ [decide (x=1)]),dOk v rv n ys∧(x=0∨x=1)⟩
 | _,_=>none
set_option maxRecDepth 8000 in
theorem dput_ok:FnOk Tryz.prog 167 dputS:=by
 refine fn_slim2 Tryz.func167 s_dput (Φ:=phiL []) phi_nil ?_
 intro xs hp r hs hp'
 unfold dputS at hs
 split at hs
 ·rename_i x t v n rv ys
  injection hs with hs; subst hs
  obtain ⟨⟨h1,h2,rfl,h3,h4⟩,hx⟩:=hp'
  generalize dW n ys=W at *
  subst h1 h2 h3
  obtain ⟨b,rfl⟩:∃ b:Bool,x=(b.toNat:Int):=by
   rcases hx with rfl | rfl
   ·exact ⟨false,rfl⟩
   ·exact ⟨true,rfl⟩
  have hb:decide (((b.toNat:Nat):Int)=1)=b:=by cases b <;> rfl
  rw [hb]
  obtain ⟨p1,p2,p3⟩:=put_next W b
  have e1:(W.length:Int).tmod 8=((W.length % 8:Nat):Int):=by rw [Int.tmod_eq_emod_of_nonneg (by omega)]; omega
  have e2:(W.length:Int).tdiv 8=((W.length / 8:Nat):Int):=by rw [Int.tdiv_eq_ediv_of_nonneg (by omega)]; omega
  refine ⟨len_le (by kernel_rfl),?_⟩
  have hb2:b.toNat<2:=Bool.toNat_lt b
  have h27:(2:Nat) ^ (W.length % 8)≤2 ^ 7:=Nat.pow_le_pow_right (by omega) (by omega)
  have hbm:b.toNat * 2 ^ (W.length % 8)≤2 ^ (W.length % 8):=by
   have:=Nat.mul_le_mul_right (2 ^ (W.length % 8)) (show b.toNat≤1 by omega)
   omega
  have hor:=or8 (W.length % 8) (by omega) ((roomW W).getD (W.length / 8) 0).toNat (by omega) b.toNat hb2 p2
  have hset:=Bs_setN (roomW W) (W.length / 8) (((roomW W).getD (W.length / 8) 0).toNat+b.toNat * 2 ^ (W.length % 8)) (by omega)
  rw [← p3] at hset
  have hv:verW (W ++ [b])=(roomW W).length:=by unfold verW; rw [p3,List.length_set]
  have hl1:(((W ++ [b]).length:Nat):Int)=(W.length:Int)+1:=by rw [List.length_append]; rfl
  have hin:inI (((b.toNat:Nat):Int) * 2 ^ (W.length % 8)):=by
   have:((b.toNat:Nat):Int) * 2 ^ (W.length % 8)=((b.toNat * 2 ^ (W.length % 8):Nat):Int):=by push_cast; rfl
   rw [this]
   generalize b.toNat * 2 ^ (W.length % 8)=z at *
   generalize 2 ^ (W.length % 8)=z2 at *
   (first | omega | (simp only [inI]; omega))
  have hpl:=packW_len W
  clear hbm h27
  by_cases h0:W.length % 8=0
  ·have c1:decide (((W.length % 8:Nat):Int)=0)=true:=decide_eq_true (by omega)
   have hrm:roomW W=packW W ++ [0]:=if_pos h0
   have hz:Bs (packW W) ++ [AV.int IntKind.u8 0]=Bs (roomW W):=by rw [hrm,Bs_append]; rfl
   have hrl:(roomW W).length=verW W+1:=by rw [hrm,List.length_append]; rfl
   simp only [c_dput,r_dput,e1,e2,c1,dbQ,hz,hor,hset,hv,hl1,hrl,Bs_len,Int.toNat_natCast,go_sem,reduceDiv,reduceMod,↓reduceIte,Nat.reduceBEq,reduceSub,reduceAdd,reduceCtorEq,Int.reduceNe]
   have hvw:verW W=(W.length+7) / 8:=hpl
   exact ⟨⟨by simp only [lenOk]; omega,by simp only [bytesOk]; omega⟩,by (first | omega | (simp only [inI]; omega)),by omega,by omega,⟨by omega,hin⟩,by omega,by omega,by (first | omega | (simp only [inI]; omega))⟩
  ·have c1:decide (((W.length % 8:Nat):Int)=0)=false:=decide_eq_false (by omega)
   have hrm:roomW W=packW W:=if_neg h0
   have hrl:(roomW W).length=verW W:=by rw [hrm]; rfl
   rw [hrm] at hor hset
   simp only [c_dput,r_dput,e1,e2,c1,dbQ,hor,hset,hv,hl1,hrl,Bs_len,Int.toNat_natCast,go_sem,reduceDiv,reduceMod,↓reduceIte,Nat.reduceBEq,reduceSub,reduceAdd,reduceCtorEq,Int.reduceNe]
   exact ⟨by (first | omega | (simp only [inI]; omega)),by omega,by omega,⟨by omega,hin⟩,by omega,by omega,by (first | omega | (simp only [inI]; omega))⟩
 ·cases hs
end Go.Proofs.YtakolikdebfkeaaGreatDoor
namespace Go.Proofs.YtakolikdebfkeaaGreatDoor
open Go.RowKit
theorem and1G (k:Nat) (h:k<9223372036854775808):bits BinOp.and IntKind.i64 (k:Int) 1=((k % 2:Nat):Int):=by
 have:=i64_and k 1 h (by omega)
 rw [Nat.and_one_is_mod] at this
 exact this
theorem bit_dec (k i:Nat):decide (((k / 2 ^ i % 2:Nat):Int)=1)=k.testBit i:=by
 rw [Nat.testBit_eq_decide_div_mod_eq]
 by_cases h:k / 2 ^ i % 2=1
 ·rw [h]; rfl
 ·rw [decide_eq_false h]; exact decide_eq_false (by omega)
theorem shr_nat (k i:Nat):((k:Nat):Int) / 2 ^ i=((k / 2 ^ i:Nat):Int):=by rw [Int.natCast_ediv,Int.natCast_pow]; rfl
theorem bitsN_zero (v:Nat):bitsN 0 v=[]:=by simp [bitsN]
theorem bitsN_succ (n v:Nat):bitsN (n+1) v=bitsN n v ++ [v.testBit n]:=by
 unfold bitsN
 rw [List.range_succ,List.map_append]; rfl
def dnumS:Spec:=fun xs hp=>match xs,hp with
 | [.ref 0 0 0,.int .i64 k,.int .i64 m],[.cells t [(1,.own 1 v),(1,.int .i64 n)],.row 5 1 rv ys]=>some ⟨.tup [],dbQ t (dW n ys ++ bitsN m.toNat k.toNat),dOk v rv n ys∧n≤9000000000∧0≤k∧k<4294967296∧0≤m∧m≤40⟩
 | _,_=>none
theorem dOk_W (W:List Bool) (h:W.length≤10000000000):dOk (verW W) (verW W) (W.length:Int) (Bs (packW W)):=⟨by rw [dW_pack],by rw [dW_pack],rfl,by rw [dW_pack],by omega⟩
set_option maxRecDepth 8000 in
theorem dnum_ok:FnOk Tryz.prog 139 dnumS:=by
 refine fn_slim2 Tryz.func139 s_dnum (Φ:=phiL [(167,[],dputS)]) (phi_cons dput_ok (by kernel_rfl) phi_nil) ?_
 intro xs hp r hs hp'
 unfold dnumS at hs
 split at hs
 ·rename_i k m t v n rv ys
  injection hs with hs; subst hs
  obtain ⟨⟨h1,h2,rfl,h3,h4⟩,h5,h6,h7,h8,h9⟩:=hp'
  generalize dW n ys=W at *
  subst h1 h2 h3
  obtain ⟨k,rfl⟩:∃ p:Nat,k=p:=⟨k.toNat,by omega⟩
  obtain ⟨m,rfl⟩:∃ p:Nat,m=p:=⟨m.toNat,by omega⟩
  simp only [Int.toNat_natCast]
  refine ⟨len_le (by kernel_rfl),?_⟩
  simp only [c_dnum,dbQ,go_sem,reduceDiv,reduceMod,reduceAdd]
  refine loop2P [] [0,1,7,8] [0,1] (fun i:Nat=>⟨[(0,.ref 0 0 0),(1,.int .i64 (k:Int)),(7,.int .i64 (m:Int)),(8,.int .i64 (i:Int))],[.cells t [(1,.own 1 (verW (W ++ bitsN i k))),(1,.int .i64 ((W ++ bitsN i k).length:Int))],.row 5 1 (verW (W ++ bitsN i k)) (Bs (packW (W ++ bitsN i k)))]⟩)
   (fun i=>i≤m) (fun i=>m - i) 0 (by simp only [bitsN_zero,List.append_nil,Int.cast_ofNat_Int,go_sem,reduceDiv,reduceMod,↓reduceIte,reduceAdd,reduceCtorEq]) (Nat.zero_le _) ⟨rfl,by rfl⟩ (fun i hi R hR=>?_)
  have hil:(W ++ bitsN i k).length=W.length+i:=by rw [List.length_append,bitsN_length]
  by_cases him:i<m
  ·have c1:decide ((i:Int)<(m:Int))=true:=decide_eq_true (by omega)
   have e1:=shr_nat k i
   have hk:k / 2 ^ i<9223372036854775808:=Nat.lt_of_le_of_lt (Nat.div_le_self _ _) (by omega)
   have e2:=and1G (k / 2 ^ i) hk
   have hbd:=bit_dec k i
   have hsn:=bitsN_succ i k
   simp only [b_dnum_0,c1,e1,e2,dputS,dbQ,dW_pack,hbd,go_sem,reduceDiv,reduceMod,↓reduceIte,Nat.reduceBEq,Nat.reduceLT,reduceAdd,reduceCtorEq]
   refine ⟨by omega,⟨dOk_W _ (by omega),by omega⟩,by (first | omega | (simp only [inI]; omega)),hR _ (i+1) (by omega) (by omega) ?_⟩
   rw [hsn,← List.append_assoc]
   rfl
  ·have c1:decide ((i:Int)<(m:Int))=false:=decide_eq_false (by omega)
   obtain rfl:i=m:=by omega
   simp only [b_dnum_0,r_dnum,c1,go_sem,reduceDiv,reduceMod,↓reduceIte,Nat.reduceBEq,reduceAdd,reduceCtorEq]
 ·cases hs
theorem bitsM_take (m k i:Nat) (h:i<m):(bitsM m k).take (i+1)=(bitsM m k).take i ++ [(k / 2 ^ (m - 1 - i)).testBit 0]:=by
 rw [List.take_add_one,bitsM_get h]; rfl
theorem bit_dec0 (q:Nat):decide (((q % 2:Nat):Int)=1)=q.testBit 0:=by
 have:=bit_dec q 0
 rw [Nat.pow_zero,Nat.div_one] at this; exact this
def dcodeS:Spec:=fun xs hp=>match xs,hp with
 | [.ref 0 0 0,.int .i64 k,.int .i64 m],[.cells t [(1,.own 1 v),(1,.int .i64 n)],.row 5 1 rv ys]=>some ⟨.tup [],dbQ t (dW n ys ++ bitsM m.toNat k.toNat),dOk v rv n ys∧n≤9000000000∧0≤k∧k<4294967296∧0≤m∧m≤40⟩
 | _,_=>none
set_option maxRecDepth 8000 in
theorem dcode_ok:FnOk Tryz.prog 168 dcodeS:=by
 refine fn_slim2 Tryz.func168 s_dcode (Φ:=phiL [(167,[],dputS)]) (phi_cons dput_ok (by kernel_rfl) phi_nil) ?_
 intro xs hp r hs hp'
 unfold dcodeS at hs
 split at hs
 ·rename_i k m t v n rv ys
  injection hs with hs; subst hs
  obtain ⟨⟨h1,h2,rfl,h3,h4⟩,h5,h6,h7,h8,h9⟩:=hp'
  generalize dW n ys=W at *
  subst h1 h2 h3
  obtain ⟨k,rfl⟩:∃ p:Nat,k=p:=⟨k.toNat,by omega⟩
  obtain ⟨m,rfl⟩:∃ p:Nat,m=p:=⟨m.toNat,by omega⟩
  simp only [Int.toNat_natCast]
  refine ⟨len_le (by kernel_rfl),?_⟩
  simp only [c_dcode,dbQ,go_sem,reduceDiv,reduceMod,↓reduceIte,reduceAdd]
  refine ⟨by (first | omega | (simp only [inI]; omega)),?_⟩
  refine loop2P [] [0,1,6] [0,1] (fun i:Nat=>⟨[(0,.ref 0 0 0),(1,.int .i64 (k:Int)),(6,.int .i64 ((m:Int) - 1 - (i:Int)))],[.cells t [(1,.own 1 (verW (W ++ (bitsM m k).take i))),(1,.int .i64 ((W ++ (bitsM m k).take i).length:Int))],.row 5 1 (verW (W ++ (bitsM m k).take i)) (Bs (packW (W ++ (bitsM m k).take i)))]⟩)
   (fun i=>i≤m) (fun i=>m - i) 0 (by simp only [List.take_zero,List.append_nil,Int.cast_ofNat_Int,Int.sub_zero,go_sem,reduceDiv,reduceMod,↓reduceIte,reduceAdd,reduceCtorEq]) (Nat.zero_le _) ⟨rfl,by rfl⟩ (fun i hi R hR=>?_)
  have hil:(W ++ (bitsM m k).take i).length=W.length+i:=by rw [List.length_append,List.length_take,bitsM_length]; omega
  by_cases him:i<m
  ·have c1:decide ((0:Int)≤(m:Int) - 1 - (i:Int))=true:=decide_eq_true (by omega)
   have e0:((m:Int) - 1 - (i:Int)).toNat=m - 1 - i:=by omega
   have e1:=shr_nat k (m - 1 - i)
   have hk:k / 2 ^ (m - 1 - i)<9223372036854775808:=Nat.lt_of_le_of_lt (Nat.div_le_self _ _) (by omega)
   have e2:=and1G (k / 2 ^ (m - 1 - i)) hk
   have hbd:=bit_dec0 (k / 2 ^ (m - 1 - i))
   have hsn:=bitsM_take m k i him
   simp only [b_dcode_0,c1,e0,e1,e2,dputS,dbQ,dW_pack,hbd,go_sem,reduceDiv,reduceMod,↓reduceIte,Nat.reduceBEq,Nat.reduceLT,reduceAdd,reduceCtorEq]
   refine ⟨by omega,⟨dOk_W _ (by omega),by omega⟩,by (first | omega | (simp only [inI]; omega)),hR _ (i+1) (by omega) (by omega) ?_⟩
   rw [hsn,← List.append_assoc,show (m:Int) - 1 - ((i+1:Nat):Int)=(m:Int) - 1 - (i:Int) - 1 by omega]
   rfl
  ·have c1:decide ((0:Int)≤(m:Int) - 1 - (i:Int))=false:=decide_eq_false (by omega)
   obtain rfl:i=m:=by omega
   have ht:(bitsM i k).take i=bitsM i k:=List.take_of_length_le (by rw [bitsM_length]; omega)
   rw [ht]
   simp only [b_dcode_0,r_dcode,c1,go_sem,reduceDiv,reduceMod,↓reduceIte,Nat.reduceBEq,reduceAdd,reduceCtorEq]
 ·cases hs
end Go.Proofs.YtakolikdebfkeaaGreatDoor
namespace Go.Proofs.YtakolikdebfkeaaGreatDoor
open Go.RowKit
theorem signB_eq (k:Nat):signB k=bitsM (fixN k) (fixC k):=by unfold signB; rfl
def dsignS:Spec:=fun xs hp=>match xs,hp with
 | [.ref 0 0 0,.int .i64 k],[.cells t [(1,.own 1 v),(1,.int .i64 n)],.row 5 1 rv ys]=>some ⟨.tup [],dbQ t (dW n ys ++ signB k.toNat),dOk v rv n ys∧n≤9000000000∧0≤k∧k<288⟩
 | _,_=>none
set_option maxRecDepth 8000 in
theorem dsign_ok:FnOk Tryz.prog 142 dsignS:=by
 refine fn_slim2 Tryz.func142 s_dsign (Φ:=(phiL [(168,[],dcodeS)])) (phi_cons dcode_ok (by kernel_rfl) phi_nil) ?_
 intro xs hp r hs hp'
 unfold dsignS at hs
 split at hs
 ·rename_i k t v n rv ys
  injection hs with hs; subst hs
  obtain ⟨⟨h1,h2,rfl,h3,h4⟩,h5,h6,h7⟩:=hp'
  generalize dW n ys=W at *
  subst h1 h2 h3
  obtain ⟨k,rfl⟩:∃ p:Nat,k=p:=⟨k.toNat,by omega⟩
  simp only [Int.toNat_natCast,signB_eq]
  have hW:=dOk_W W (by omega)
  refine ⟨len_le (by kernel_rfl),?_⟩
  by_cases k1:k<144
  ·have c1:decide ((k:Int)<144)=true:=decide_eq_true (by omega)
   have e1:(48:Int)+(k:Int)=((48+k:Nat):Int):=by omega
   have q1:fixN k=8:=by unfold fixN; rw [if_pos k1]
   have q2:fixC k=48+k:=by unfold fixC; rw [if_pos k1]
   simp only [c_dsign,r_dsign,c1,e1,q1,q2,dcodeS,dbQ,dW_pack,Int.toNat_natCast,Int.reduceToNat,go_sem,reduceDiv,reduceMod,↓reduceIte,Nat.reduceBEq,Nat.reduceLT,reduceAdd,reduceCtorEq,Int.reduceLE,Int.reduceToNat]
   exact ⟨by (first | omega | (simp only [inI]; omega)),hW,by omega,by omega,by omega⟩
  ·have c1:decide ((k:Int)<144)=false:=decide_eq_false (by omega)
   by_cases k2:k<256
   ·have c2:decide ((k:Int)<256)=true:=decide_eq_true (by omega)
    have e1:(400:Int)+(k:Int) - 144=((400+k - 144:Nat):Int):=by omega
    have q1:fixN k=9:=by unfold fixN; rw [if_neg k1,if_pos k2]
    have q2:fixC k=400+k - 144:=by unfold fixC; rw [if_neg k1,if_pos k2]
    simp only [c_dsign,r_dsign,c1,c2,e1,q1,q2,dcodeS,dbQ,dW_pack,Int.toNat_natCast,Int.reduceToNat,go_sem,reduceDiv,reduceMod,↓reduceIte,Nat.reduceBEq,Nat.reduceLT,reduceAdd,reduceCtorEq,Int.reduceLE,Int.reduceToNat]
    exact ⟨by (first | omega | (simp only [inI]; omega)),by (first | omega | (simp only [inI]; omega)),hW,by omega,by omega,by omega⟩
   ·have c2:decide ((k:Int)<256)=false:=decide_eq_false (by omega)
    by_cases k3:k<280
    ·have c3:decide ((k:Int)<280)=true:=decide_eq_true (by omega)
     have e1:(k:Int) - 256=((k - 256:Nat):Int):=by omega
     have q1:fixN k=7:=by unfold fixN; rw [if_neg k1,if_neg k2,if_pos k3]
     have q2:fixC k=k - 256:=by unfold fixC; rw [if_neg k1,if_neg k2,if_pos k3]
     simp only [c_dsign,r_dsign,c1,c2,c3,e1,q1,q2,dcodeS,dbQ,dW_pack,Int.toNat_natCast,Int.reduceToNat,go_sem,reduceDiv,reduceMod,↓reduceIte,Nat.reduceBEq,Nat.reduceLT,reduceAdd,reduceCtorEq,Int.reduceLE,Int.reduceToNat]
     exact ⟨by (first | omega | (simp only [inI]; omega)),hW,by omega,by omega,by omega⟩
    ·have c3:decide ((k:Int)<280)=false:=decide_eq_false (by omega)
     have e1:(192:Int)+(k:Int) - 280=((192+k - 280:Nat):Int):=by omega
     have q1:fixN k=8:=by unfold fixN; rw [if_neg k1,if_neg k2,if_neg k3]
     have q2:fixC k=192+k - 280:=by unfold fixC; rw [if_neg k1,if_neg k2,if_neg k3]
     simp only [c_dsign,r_dsign,c1,c2,c3,e1,q1,q2,dcodeS,dbQ,dW_pack,Int.toNat_natCast,Int.reduceToNat,go_sem,reduceDiv,reduceMod,↓reduceIte,Nat.reduceBEq,Nat.reduceLT,reduceAdd,reduceCtorEq,Int.reduceLE,Int.reduceToNat]
     exact ⟨by (first | omega | (simp only [inI]; omega)),by (first | omega | (simp only [inI]; omega)),hW,by omega,by omega,by omega⟩
 ·cases hs
theorem andM (k e:Nat) (h:k<9223372036854775808) (he:e<40):bits BinOp.and IntKind.i64 (k:Int) (2 ^ e - 1)=((k % 2 ^ e:Nat):Int):=by
 have h1:(2:Nat) ^ e≤2 ^ 40:=Nat.pow_le_pow_right (by omega) (by omega)
 have h2:0<(2:Nat) ^ e:=Nat.two_pow_pos e
 have e1:(2:Int) ^ e - 1=((2 ^ e - 1:Nat):Int):=by
  have:((2 ^ e:Nat):Int)=(2:Int) ^ e:=by push_cast; rfl
  rw [← this]; omega
 rw [e1,i64_and k _ h (by omega),Nat.and_two_pow_sub_one_eq_mod]
theorem and3 (k:Nat) (h:k<9223372036854775808):bits BinOp.and IntKind.i64 (k:Int) 3=((k % 4:Nat):Int):=by
 have:=i64_and k 3 h (by omega)
 rw [show (3:Nat)=2 ^ 2 - 1 from rfl,Nat.and_two_pow_sub_one_eq_mod] at this
 exact this
theorem more_at {lim f k i:Nat} (hl:0<lim) (hev:lim % 2=0) (hk:k<lim * 2 ^ f) (hi:i≤moreN lim f k):(lim≤k / 2 ^ i→i<moreN lim f k)∧(k / 2 ^ i<lim→i=moreN lim f k):=by
 obtain ⟨m1,m2,m3⟩:=more_ok lim hl f k hk
 refine ⟨fun h=>?_,fun h=>?_⟩
 ·rcases Nat.lt_or_ge i (moreN lim f k) with h1 | h1
  ·exact h1
  ·have:i=moreN lim f k:=by omega
   rw [this] at h; omega
 ·rcases Nat.lt_or_ge i (moreN lim f k) with h1 | h1
  ·exfalso
   by_cases hlk:lim≤k
   ·have h3:=m3 hlk
    have h4:k / 2 ^ moreN lim f k≤k / 2 ^ (i+1):=Nat.div_le_div_left (Nat.pow_le_pow_right (by omega) (by omega)) (Nat.two_pow_pos _)
    rw [Nat.pow_succ,← Nat.div_div_eq_div_mul] at h4
    generalize k / 2 ^ i=z at *
    generalize k / 2 ^ moreN lim f k=y at *
    omega
   ·have:moreN lim f k=0:=by
     cases f with
     | zero=>rfl
     | succ f=>unfold moreN; rw [if_pos (by omega)]
    omega
  ·omega
def dlenS:Spec:=fun xs hp=>match xs,hp with
 | [.ref 0 0 0,.int .i64 m],[.cells t [(1,.own 1 v),(1,.int .i64 n)],.row 5 1 rv ys]=>some ⟨.tup [],dbQ t (dW n ys ++ (signB (lenS m.toNat).1 ++ bitsN (lenS m.toNat).2.1 (lenS m.toNat).2.2)),dOk v rv n ys∧n≤8000000000∧3≤m∧m≤258⟩
 | _,_=>none
theorem phD_ok:PhiOk Tryz.prog (phiL [(142,[],dsignS),(139,[],dnumS),(168,[],dcodeS)]):=phi_cons dsign_ok (by kernel_rfl) (phi_cons dnum_ok (by kernel_rfl) (phi_cons dcode_ok (by kernel_rfl) phi_nil))
theorem signB_len (k:Nat):(signB k).length≤9:=by rw [signB_eq,bitsM_length]; exact (fixN_ok k).2
set_option maxRecDepth 8000 in
theorem dlen_ok:FnOk Tryz.prog 140 dlenS:=by
 refine fn_slim2 Tryz.func140 s_dlen phD_ok ?_
 intro xs hp r hs hp'
 unfold dlenS at hs
 split at hs
 ·rename_i m t v n rv ys
  injection hs with hs; subst hs
  obtain ⟨⟨h1,h2,rfl,h3,h4⟩,h5,h6,h7⟩:=hp'
  generalize dW n ys=W at *
  subst h1 h2 h3
  obtain ⟨k,rfl⟩:∃ p:Nat,m=((p+3:Nat):Int):=⟨m.toNat - 3,by omega⟩
  simp only [Int.toNat_natCast]
  have hW:=dOk_W W (by omega)
  refine ⟨len_le (by kernel_rfl),?_⟩
  by_cases k1:k=255
  ·subst k1
   have c1:decide (((255+3:Nat):Int)=258)=true:=rfl
   have q1:lenS (255+3)=(285,0,0):=rfl
   simp only [c_dlen,r_dlen,q1,dsignS,dbQ,dW_pack,bitsN_zero,List.append_nil,Int.reduceToNat,go_sem,reduceDiv,reduceMod,↓reduceIte,Nat.reduceBEq,Nat.reduceLT,reduceAdd,reduceCtorEq,Int.reduceLT,Int.reduceLE,Int.reduceToNat]
   exact ⟨hW,by omega⟩
  ·have c1:decide (((k+3:Nat):Int)=258)=false:=decide_eq_false (by omega)
   have e1:((k+3:Nat):Int) - 3=(k:Int):=by omega
   simp only [c_dlen,c1,e1,dbQ,go_sem,reduceDiv,reduceMod,↓reduceIte,reduceAdd]
   refine ⟨by (first | omega | (simp only [inI]; omega)),?_⟩
   refine loop2P [] [0,4,5] [0,1] (fun i:Nat=>⟨[(0,.ref 0 0 0),(4,.int .i64 (k:Int)),(5,.int .i64 (i:Int))],[.cells t [(1,.own 1 (verW W)),(1,.int .i64 (W.length:Int))],.row 5 1 (verW W) (Bs (packW W))]⟩)
    (fun i=>i≤moreN 8 8 k) (fun i=>8 - i) 0 (by rfl) (Nat.zero_le _) ⟨rfl,by rfl⟩ (fun i hi R hR=>?_)
   obtain ⟨m1,m2,m3⟩:=more_ok 8 (by omega) 8 k (by omega)
   obtain ⟨a1,a2⟩:=more_at (lim:=8) (f:=8) (k:=k) (i:=i) (by omega) rfl (by omega) hi
   have e2:=shr_nat k i
   by_cases h8:8≤k / 2 ^ i
   ·have c2:decide ((8:Int)≤((k / 2 ^ i:Nat):Int))=true:=decide_eq_true (by omega)
    have:=a1 h8
    simp only [b_dlen_0,c2,e2,go_sem,reduceDiv,reduceMod,↓reduceIte]
    exact ⟨by omega,by (first | omega | (simp only [inI]; omega)),hR _ (i+1) (by omega) (by omega) rfl⟩
   ·have c2:decide ((8:Int)≤((k / 2 ^ i:Nat):Int))=false:=decide_eq_false (by omega)
    have hM:=a2 (by omega)
    by_cases k8:k<8
    ·have c3:decide ((k:Int)<8)=true:=decide_eq_true (by omega)
     have e3:(257:Int)+(k:Int)=((257+k:Nat):Int):=by omega
     have q1:lenS (k+3)=(257+k,0,0):=by unfold lenS; rw [if_neg (by omega),if_pos (by omega),Nat.add_sub_cancel]
     simp only [b_dlen_0,t_dlen_0,r_dlen,c2,c3,e2,e3,q1,dsignS,dbQ,dW_pack,bitsN_zero,List.append_nil,Int.toNat_natCast,go_sem,reduceDiv,reduceMod,↓reduceIte,Nat.reduceBEq,Nat.reduceLT,reduceAdd,reduceCtorEq]
     exact ⟨by omega,by (first | omega | (simp only [inI]; omega)),hW,by omega,by omega,by omega⟩
    ·have c3:decide ((k:Int)<8)=false:=decide_eq_false (by omega)
     have q1:lenS (k+3)=(257+4 * (i+1)+k / 2 ^ i % 4,i,k % 2 ^ i):=by unfold lenS; rw [if_neg (by omega),if_neg (by omega),Nat.add_sub_cancel,← hM]
     have e4:=and3 (k / 2 ^ i) (Nat.lt_of_le_of_lt (Nat.div_le_self _ _) (by omega))
     have e5:=andM k i (by omega) (by omega)
     have e6:(257:Int)+4 * ((i:Int)+1)+((k / 2 ^ i % 4:Nat):Int)=((257+4 * (i+1)+k / 2 ^ i % 4:Nat):Int):=by omega
     simp only [b_dlen_0,t_dlen_0,r_dlen,c2,c3,e2,e4,e5,e6,q1,dsignS,dnumS,dbQ,dW_pack,← List.append_assoc,Int.one_mul,Int.toNat_natCast,go_sem,reduceDiv,reduceMod,↓reduceIte,reduceEqDiff,Nat.reduceBEq,Nat.reduceLT,reduceAdd,reduceCtorEq]
     have h4' : 4≤k / 2 ^ i:=by have:=m3 (by omega); rw [← hM] at this; omega
     have h5' := Nat.div_mul_le_self k (2 ^ i)
     have h6' := Nat.mul_le_mul_right (2 ^ i) h4'
     have h7' : i≤5:=by
      rcases Nat.lt_or_ge i 6 with h | h
      ·omega
      ·have:(2:Nat) ^ 6≤2 ^ i:=Nat.pow_le_pow_right (by omega) h
       omega
     have h2i:(2:Nat) ^ i≤2 ^ 5:=Nat.pow_le_pow_right (by omega) h7'
     have hz:(2:Int) ^ i=((2 ^ i:Nat):Int):=by push_cast; rfl
     have hmod:=Nat.mod_lt k (Nat.two_pow_pos i)
     have hp2:=Nat.two_pow_pos i
     have hsl:=signB_len (257+4 * (i+1)+k / 2 ^ i % 4)
     have hWl:(W ++ signB (257+4 * (i+1)+k / 2 ^ i % 4)).length≤W.length+9:=by rw [List.length_append]; omega
     have hd:=dOk_W (W ++ signB (257+4 * (i+1)+k / 2 ^ i % 4)) (by omega)
     have hi1:inI ((2:Int) ^ i):=by rw [hz]; generalize 2 ^ i=z at *; (first | omega | (simp only [inI]; omega))
     have hi2:inI ((2:Int) ^ i - 1):=by rw [hz]; generalize 2 ^ i=z at *; (first | omega | (simp only [inI]; omega))
     exact ⟨by omega,by (first | omega | (simp only [inI]; omega)),by (first | omega | (simp only [inI]; omega)),by (first | omega | (simp only [inI]; omega)),by omega,by (first | omega | (simp only [inI]; omega)),⟨hW,by omega,by omega,by omega⟩,⟨by omega,hi1⟩,hi2,hd,by omega,by omega,by omega,by omega,by omega⟩
 ·cases hs
end Go.Proofs.YtakolikdebfkeaaGreatDoor
namespace Go.Proofs.YtakolikdebfkeaaGreatDoor
open Go.RowKit
def ddistS:Spec:=fun xs hp=>match xs,hp with
 | [.ref 0 0 0,.int .i64 m],[.cells t [(1,.own 1 v),(1,.int .i64 n)],.row 5 1 rv ys]=>some ⟨.tup [],dbQ t (dW n ys ++ (bitsM 5 (distS m.toNat).1 ++ bitsN (distS m.toNat).2.1 (distS m.toNat).2.2)),dOk v rv n ys∧n≤8000000000∧1≤m∧m≤32768⟩
 | _,_=>none
set_option maxRecDepth 8000 in
theorem ddist_ok:FnOk Tryz.prog 141 ddistS:=by
 refine fn_slim2 Tryz.func141 s_ddist phD_ok ?_
 intro xs hp r hs hp'
 unfold ddistS at hs
 split at hs
 ·rename_i m t v n rv ys
  injection hs with hs; subst hs
  obtain ⟨⟨h1,h2,rfl,h3,h4⟩,h5,h6,h7⟩:=hp'
  generalize dW n ys=W at *
  subst h1 h2 h3
  obtain ⟨k,rfl⟩:∃ p:Nat,m=((p+1:Nat):Int):=⟨m.toNat - 1,by omega⟩
  simp only [Int.toNat_natCast]
  have hW:=dOk_W W (by omega)
  refine ⟨len_le (by kernel_rfl),?_⟩
  have e1:((k+1:Nat):Int) - 1=(k:Int):=by omega
  by_cases k4:k<4
  ·have c3:decide ((k:Int)<4)=true:=decide_eq_true (by omega)
   have q1:distS (k+1)=(k,0,0):=by unfold distS; rw [Nat.add_sub_cancel,if_pos k4]
   simp only [c_ddist,r_ddist,c3,e1,q1,dcodeS,dbQ,dW_pack,bitsN_zero,List.append_nil,Int.toNat_natCast,Int.reduceToNat,go_sem,reduceDiv,reduceMod,↓reduceIte,reduceEqDiff,Nat.reduceBEq,Nat.reduceLT,reduceAdd,reduceCtorEq,Int.reduceLE,Int.reduceToNat]
   exact ⟨by (first | omega | (simp only [inI]; omega)),hW,by omega,by omega,by omega⟩
  ·have c3:decide ((k:Int)<4)=false:=decide_eq_false (by omega)
   simp only [c_ddist,c3,e1,dbQ,go_sem,reduceDiv,reduceMod,↓reduceIte,reduceAdd]
   refine ⟨by (first | omega | (simp only [inI]; omega)),?_⟩
   refine loop2P [] [0,4,5] [0,1] (fun i:Nat=>⟨[(0,.ref 0 0 0),(4,.int .i64 (k:Int)),(5,.int .i64 (i:Int))],[.cells t [(1,.own 1 (verW W)),(1,.int .i64 (W.length:Int))],.row 5 1 (verW W) (Bs (packW W))]⟩)
    (fun i=>i≤moreN 4 15 k) (fun i=>15 - i) 0 (by rfl) (Nat.zero_le _) ⟨rfl,by rfl⟩ (fun i hi R hR=>?_)
   obtain ⟨m1,m2,m3⟩:=more_ok 4 (by omega) 15 k (by omega)
   obtain ⟨a1,a2⟩:=more_at (lim:=4) (f:=15) (k:=k) (i:=i) (by omega) rfl (by omega) hi
   have e2:=shr_nat k i
   by_cases h8:4≤k / 2 ^ i
   ·have c2:decide ((4:Int)≤((k / 2 ^ i:Nat):Int))=true:=decide_eq_true (by omega)
    have:=a1 h8
    simp only [b_ddist_0,c2,e2,go_sem,reduceDiv,reduceMod,↓reduceIte]
    exact ⟨by omega,by (first | omega | (simp only [inI]; omega)),hR _ (i+1) (by omega) (by omega) rfl⟩
   ·have c2:decide ((4:Int)≤((k / 2 ^ i:Nat):Int))=false:=decide_eq_false (by omega)
    have hM:=a2 (by omega)
    have q1:distS (k+1)=(2 * (i+1)+k / 2 ^ i % 2,i,k % 2 ^ i):=by unfold distS; rw [Nat.add_sub_cancel,if_neg (by omega),← hM]
    have e4:=and1G (k / 2 ^ i) (Nat.lt_of_le_of_lt (Nat.div_le_self _ _) (by omega))
    have e5:=andM k i (by omega) (by omega)
    have e6:(2:Int) * ((i:Int)+1)+((k / 2 ^ i % 2:Nat):Int)=((2 * (i+1)+k / 2 ^ i % 2:Nat):Int):=by omega
    simp only [b_ddist_0,t_ddist_0,r_ddist,c2,e2,e4,e5,e6,q1,dcodeS,dnumS,dbQ,dW_pack,← List.append_assoc,Int.one_mul,Int.toNat_natCast,Int.reduceToNat,go_sem,reduceDiv,reduceMod,↓reduceIte,reduceEqDiff,Nat.reduceBEq,Nat.reduceLT,reduceAdd,reduceCtorEq,Int.reduceLE,Int.reduceToNat]
    have h4' : 2≤k / 2 ^ i:=by have:=m3 (by omega); rw [← hM] at this; omega
    have h5' := Nat.div_mul_le_self k (2 ^ i)
    have h6' := Nat.mul_le_mul_right (2 ^ i) h4'
    have h7' : i≤13:=by
     rcases Nat.lt_or_ge i 14 with h | h
     ·omega
     ·have:(2:Nat) ^ 14≤2 ^ i:=Nat.pow_le_pow_right (by omega) h
      omega
    have h2i:(2:Nat) ^ i≤2 ^ 13:=Nat.pow_le_pow_right (by omega) h7'
    have hz:(2:Int) ^ i=((2 ^ i:Nat):Int):=by push_cast; rfl
    have hmod:=Nat.mod_lt k (Nat.two_pow_pos i)
    have hp2:=Nat.two_pow_pos i
    have hWl:(W ++ bitsM 5 (2 * (i+1)+k / 2 ^ i % 2)).length≤W.length+5:=by rw [List.length_append,bitsM_length]; omega
    have hd:=dOk_W (W ++ bitsM 5 (2 * (i+1)+k / 2 ^ i % 2)) (by omega)
    have hi1:inI ((2:Int) ^ i):=by rw [hz]; generalize 2 ^ i=z at *; (first | omega | (simp only [inI]; omega))
    have hi2:inI ((2:Int) ^ i - 1):=by rw [hz]; generalize 2 ^ i=z at *; (first | omega | (simp only [inI]; omega))
    exact ⟨by omega,by (first | omega | (simp only [inI]; omega)),by (first | omega | (simp only [inI]; omega)),by omega,by (first | omega | (simp only [inI]; omega)),⟨hW,by omega,by omega,by omega⟩,⟨by omega,hi1⟩,hi2,hd,by omega,by omega,by omega,by omega,by omega⟩
 ·cases hs
end Go.Proofs.YtakolikdebfkeaaGreatDoor
namespace Go.Proofs.YtakolikdebfkeaaGreatDoor
theorem getM_putM:∀ (es:List (MK × AV)) (k k' : MK) (x:AV),getM (putM es k x) k' = if k=k' then some x else getM es k'
 | [],k,k',x=>by simp only [putM,getM]
 | (q,y) :: r,k,k',x=>by
  simp only [putM]
  by_cases h:q=k
  ·subst h
   rw [if_pos rfl]
   simp only [getM]
   by_cases h2:q=k'
   ·rw [if_pos h2,if_pos h2]
   ·rw [if_neg h2,if_neg h2,if_neg h2]
  ·rw [if_neg h]
   simp only [getM]
   by_cases h2:q=k'
   ·rw [if_pos h2,if_neg (fun e=>h (h2.trans e.symm)),if_pos h2]
   ·rw [if_neg h2,getM_putM r k k' x,if_neg h2]
def k3 (b:List UInt8) (p:Nat):List UInt8:=[b.getD p 0,b.getD (p+1) 0,b.getD (p+2) 0]
def seenM (b:List UInt8):Nat→List (MK × AV)
 | 0=>[]
 | k+1=>if k+3≤b.length then putM (seenM b k) (.a (k3 b k)) (.int .i64 (k:Int)) else seenM b k
theorem same3_k3 (b:List UInt8) (p q:Nat):same3 b p q=decide (k3 b p=k3 b q):=by
 unfold same3 k3
 simp only [List.cons.injEq,and_true,Bool.decide_and,Bool.and_assoc]
theorem getM_seen (b:List UInt8) (q:Nat):∀ k,k+2≤b.length→getM (seenM b k) (.a (k3 b q))=(lastP b q k).map fun (p:Nat)=>AV.int .i64 (p:Int)
 | 0,_=>rfl
 | k+1,h=>by
  unfold seenM lastP
  rw [if_pos (by omega),getM_putM,same3_k3]
  by_cases e:k3 b k=k3 b q
  ·rw [if_pos (by rw [e]),if_pos (by simpa using e)]; rfl
  ·rw [if_neg (fun h=>e (by injection h)),if_neg (by simpa using e),getM_seen b q k (by omega)]
theorem k3_take (b:List UInt8) (p:Nat) (h:p+3≤b.length):(b.drop p).take 3=k3 b p:=by
 unfold k3
 refine List.ext_getElem? fun i=>?_
 rw [List.getElem?_take]
 by_cases hi:i<3
 ·rw [if_pos hi,List.getElem?_drop]
  match i,hi with
  | 0,_=>simp [List.getElem?_eq_getElem (show p<b.length by omega),List.getD_eq_getElem?_getD]
  | 1,_=>simp [List.getElem?_eq_getElem (show p+1<b.length by omega),List.getD_eq_getElem?_getD]
  | 2,_=>simp [List.getElem?_eq_getElem (show p+2<b.length by omega),List.getD_eq_getElem?_getD]
 ·rw [if_neg hi,List.getElem?_eq_none (by simp; omega)]
end Go.Proofs.YtakolikdebfkeaaGreatDoor
