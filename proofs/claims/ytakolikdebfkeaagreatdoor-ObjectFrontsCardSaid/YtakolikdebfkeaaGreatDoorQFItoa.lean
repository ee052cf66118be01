import Derived.Test.YtakolikdebfkeaaGreatDoorChecked
import Derived.Test.YtakolikdebfkeaaGreatDoorQFDfl1
import Derived.Sort.Grow
import Derived.Test.YtakolikdebfkeaaGreatDoorQAMS
import Derived.Test.YtakolikdebfkeaaGreatDoorQParse
import Derived.Lib.Bytealg
import Derived.KernelRfl
import Derived.Test.YtakolikdebfkeaaGreatDoorProg
import Derived.Shelf.Strings.Builder1
import Derived.Laws.EntriesVeiled
import Derived.Laws.BitsAll
import Derived.Test.YtakolikdebfkeaaGreatDoorQShaSum
import Derived.Lib.ItoaLen
open Nat (reduceDiv reduceMod reduceSub reduceAdd reduceLeDiff reduceEqDiff)
set_option linter.all false
namespace Go.Proofs.YtakolikdebfkeaaGreatDoor
open Go.RowKit
open Go.Lib (itoa)
open Go.Sort (grow)
theorem tab_of {w : World} {S : Nat → Prop} (h : GlobOk w S) : Lib.TabIs Tryz.prog w "internal/strconv.uint64pow10" .u64 Lib.pow10Tab := by
 obtain ⟨_, us, t, fr, h2, _, h4⟩ := h.1 3 20 (.blob (Lib.pow10Tab.map fun z => .int .u64 z)) (by kernel_rfl)
 have h5 : us = Lib.pow10Tab.map fun z => Value.int .u64 z := by cases h2; rfl
 unfold Lib.TabIs World.var?
 rw [show Tryz.prog.globalNamed "internal/strconv.uint64pow10" = some 3 by kernel_rfl]
 simp only [Option.bind_some, h4, h5]
theorem below_grow (w:World) (k:Nat) (os:Array Obj):Below w.heap.size w (grow (w.drewN k) os):=by
 have e:∀ k,(w.drewN k).heap=w.heap∧(w.drewN k).os=w.os∧(w.drewN k).tape=w.tape∧(w.drewN k).output=w.output:=by
  intro k
  induction k with
  | zero=>exact ⟨rfl,rfl,rfl,rfl⟩
  | succ k ih=>simpa [World.drewN] using ih
 obtain ⟨e1,e2,e3,e4⟩:=e k
 refine ⟨by simp [grow,e2],by simp [grow],by simp [grow,e4],by simp [grow],fun j hj=>?_⟩
 simp [grow,Array.getElem?_append_left hj]
def itoaS:Spec:=fun xs hp=>match xs,hp with
 | [.int .i64 n],[]=>some ⟨.str (itoa n),[],inI n⟩
 | _,_=>none
theorem itoa_ok:FnOk Tryz.prog 94 itoaS:=by
 refine fnok_of_calls fun xs0 hp r hs hp' => ?_
 unfold itoaS at hs
 split at hs
 ·rename_i n
  injection hs with hs; subst hs
  refine ⟨rfl,rfl,fun w S ρ args hS ha=>?_⟩
  obtain ⟨v,vs,rfl,hv,hr⟩:=ha.get _ _ rfl
  obtain rfl:=hr.none
  rw [hv.int]
  refine (Tryz.strconv_Itoa n hp'.1 hp'.2 w (tab_of ha.glob)).mono ?_
  rintro e w' ⟨rfl,k,os,rfl⟩
  exact ⟨_,rfl,below_grow w k os,fun _ _ _=>Vl.str' _⟩
 ·cases hs
open Go.Lib (decDigits itoa)
noncomputable def decP:Nat→List UInt8:=sealF fun n=>if n=0 then [] else decDigits n
theorem decP_0:decP 0=[]:=by unfold decP; rw [sealF_eq]; rfl
theorem decP_pos {n:Nat} (h:0<n):decP n=decDigits n:=by unfold decP; rw [sealF_eq]; exact if_neg (by omega)
theorem decP_step {n:Nat} (h:0<n):decP n=decP (n / 10) ++ [dc (n % 10)]:=by
 rw [decP_pos h]
 by_cases h1:n<10
 ·rw [decD_small h1,Nat.div_eq_of_lt h1,decP_0,Nat.mod_eq_of_lt h1]; rfl
 ·rw [decD_big (by omega),decP_pos (by omega)]
theorem decD_last (n:Nat):decP (n / 10) ++ [dc (n % 10)]=decDigits n:=by
 by_cases h:n=0
 ·subst h; rw [decP_0,decD_small (by omega)]; rfl
 ·rw [← decP_step (by omega),decP_pos (by omega)]
def b_rdec_0:ACode:=(.seq (.seq (.reg none [oS 7 (.mv (.t 0)),oS 8 (.bin .lss (.t 7) (.c (.int .i64 0)))]) (.cond (.t 8) .skip (.exit 0))) (.block 1 (.seq (.reg none [oS 9 (.mv (.t 0)),oS 10 (.bin .rem (.t 9) (.c (.int .i64 10))),oS 11 (.bin .sub (.c (.int .i64 48)) (.t 10)),oS 12 (.toInt .u8 (.t 11)),oS 13 (.buildSl 5 1 [(.t 12)]),oS 14 (.toStr (.t 13)),oS 15 (.mv (.t 3)),oS 16 (.bin .add (.t 14) (.t 15)),oS 3 (.mv (.t 16))]) (.reg none [oS 17 (.mv (.t 0)),oS 18 (.bin .quo (.t 17) (.c (.int .i64 10))),oS 0 (.mv (.t 18))]))))
def b_rdec_1:ACode:=(.seq (.seq (.reg none [oS 29 (.mv (.t 0)),oS 30 (.bin .gtr (.t 29) (.c (.int .i64 0)))]) (.cond (.t 30) .skip (.exit 2))) (.seq (.block 3 (.reg none [oS 33 (.mv (.t 0)),oS 34 (.bin .rem (.t 33) (.c (.int .i64 10))),oS 35 (.bin .add (.c (.int .i64 48)) (.t 34)),oS 36 (.toInt .u8 (.t 35)),oS 37 (.buildSl 5 1 [(.t 36)]),oS 38 (.toStr (.t 37)),oS 39 (.mv (.t 4)),oS 40 (.bin .add (.t 38) (.t 39)),oS 4 (.mv (.t 40))])) (.reg none [oS 31 (.mv (.t 0)),oS 32 (.bin .quo (.t 31) (.c (.int .i64 10))),oS 0 (.mv (.t 32))])))
def t_rdec_0:ACode:=(.seq (.reg none [oS 41 (.mv (.t 4)),oS 2 (.mv (.t 41))]) .ret)
def t_rdec_1:ACode:=(.seq (.reg none [oS 21 (.mv (.t 0)),oS 22 (.bin .rem (.t 21) (.c (.int .i64 10))),oS 23 (.bin .add (.c (.int .i64 48)) (.t 22)),oS 24 (.toInt .u8 (.t 23)),oS 25 (.buildSl 5 1 [(.t 24)]),oS 26 (.toStr (.t 25)),oS 4 (.mv (.t 26))]) (.seq (.seq (.reg none [oS 27 (.mv (.t 0)),oS 28 (.bin .quo (.t 27) (.c (.int .i64 10))),oS 0 (.mv (.t 28))]) (.block 2 (.loop b_rdec_1))) t_rdec_0))
def c_rdec:ACode:=(.seq (.reg none [oS 2 (.mv (.c (.str [])))]) (.seq (.seq (.reg none [oS 5 (.mv (.t 0)),oS 6 (.bin .lss (.t 5) (.c (.int .i64 0)))]) (.cond (.t 6) (.seq (.reg none [oS 3 (.mv (.c (.str [])))]) (.seq (.block 0 (.loop b_rdec_0)) (.seq (.reg none [oS 19 (.mv (.t 3)),oS 20 (.bin .add (.c (.str [45])) (.t 19)),oS 2 (.mv (.t 20))]) .ret))) .skip)) t_rdec_1))
def r_rdec:List ARes:=[(.t 2)]
theorem s_rdec:slimF Tryz.prog Tryz.f96=some (c_rdec,r_rdec):=by kernel_rfl
theorem rdec_ok:FnOk Tryz.prog 96 itoaS:=by
 refine fn_slim Tryz.func96 s_rdec (Φ:=phiL []) phi_nil ?_
 intro xs hp r hs hp'
 unfold itoaS at hs
 split at hs
 ·injection hs with hs; subst hs
  rename_i n
  refine ⟨len_le (by kernel_rfl),?_⟩
  have hn:inI n:=hp'
  obtain ⟨hn1,hn2⟩:=hn
  by_cases hneg:n<0
  ·have d1:decide (n<0)=true:=decide_eq_true hneg
   obtain ⟨m,rfl⟩:∃ m:Nat,n = -(m:Int):=⟨n.natAbs,by omega⟩
   have hit:itoa (-(m:Int))=45 :: decDigits m:=Lib.itoa_neg m (by omega)
   have hlen:=decD_pow 18 m (by omega)
   simp only [c_rdec,d1,awp_reg,awp_seq,awp_cond,awp_block,awp_loop,arun_nil,arun_op,aq_some,isB_t,thenQ_n,astep,stV,aval,slots,aBin,aInt,St.ev,lk,St.put,↓reduceIte,true_and,List.length_nil,reduceCtorEq,eq_self]
   refine loop_at [] [0,3] [] (fun a:Nat × List UInt8=>⟨[(0,.int .i64 (-(a.1:Int))),(3,.str a.2)],[]⟩) (fun a=>decP a.1 ++ a.2=decDigits m∧a.1≤m) (fun a=>a.1) (m,[]) rfl ⟨by simp only [List.append_nil]; exact decP_pos (by omega),Nat.le_refl _⟩ ⟨rfl,rfl⟩ (fun a ha=>?_)
   obtain ⟨cur,s⟩:=a
   obtain ⟨ha,hb⟩:=ha
   simp only at ha hb
   have hl:=congrArg List.length ha
   rw [List.length_append] at hl
   by_cases hc:cur=0
   ·subst hc
    have d2:decide (-((0:Nat):Int)<0)=false:=decide_eq_false (by omega)
    rw [decP_0,List.nil_append] at ha
    subst ha
    simp only [b_rdec_0,r_rdec,d2,hit,awp_reg,awp_seq,awp_cond,awp_exit,awp_ret,arun_nil,arun_op,aq_some,isB_f,isB_g,thenQ_n,thenQ_x,thenQ_r,inQ_x,retQ_r,astep,stV,aval,aret,ares,aBin,aInt,aStr,St.ev,lk,St.put,lentO,renObj,posOf,↓reduceIte,reduceEqDiff,true_and,List.length_cons,List.length_nil,reduceAdd,List.nil_append,List.cons_append,Option.map,mapO,ren,kp,List.range,List.range.loop,reduceCtorEq,eq_self]
    simp only [renObj,finP,finI,closeIds,addNew,idsOf,List.flatMap_nil,List.take_zero,nodupB,posOf,idsObj,List.range,List.range.loop,ren,lentO,mapO,Option.map,and_true]
    (first | omega | (simp only [lenOk]; omega))
   ·have d2:decide (-(cur:Int)<0)=true:=decide_eq_true (by omega)
    have e1:(-(cur:Int)).tmod 10 = -((cur % 10:Nat):Int):=by rw [Int.neg_tmod,show (10:Int)=((10:Nat):Int) from rfl,tmod_nat]
    have e2:(-(cur:Int)).tdiv 10 = -((cur / 10:Nat):Int):=by rw [Int.neg_tdiv,show (10:Int)=((10:Nat):Int) from rfl,tdiv_nat]
    have e3:48 - -((cur % 10:Nat):Int)=((48+cur % 10:Nat):Int):=by omega
    simp only [b_rdec_0,d2,e1,e2,e3,wrap8n (show 48+cur % 10<256 by omega),Bs_o8 _ (show 48+cur % 10<256 by omega),unB_Bs,awp_skip,awp_reg,awp_seq,awp_cond,awp_block,arun_nil,arun_op,aq_some,isB_t,thenQ_n,inQ_n,astep,stV,stN,aval,anew,aElems,frzS,Bs_len,aBin,aInt,aStr,arI,aToInt,aToStr,pureB,szOk,view,St.ev,lk,St.put,lentO,renObj,posOf,lenOk_1,↓reduceIte,reduceEqDiff,true_and,List.length_cons,List.length_nil,reduceAdd,List.nil_append,List.cons_append,Option.map,mapO,ren,kp,List.range,List.range.loop,List.getElem?_cons_zero,reduceCtorEq,eq_self,and_self]
    refine ⟨by omega,by (first | omega | (simp only [inI]; omega)),by (first | omega | (simp only [lenOk]; omega)),⟨by omega,by (first | omega | (simp only [inI]; omega))⟩,(cur / 10,o8 (48+cur % 10) :: s),⟨?_,by simp only; omega⟩,by simp only; omega,rfl⟩
    rw [decP_step (by omega),List.append_assoc] at ha
    exact ha
  ·have d1:decide (n<0)=false:=decide_eq_false hneg
   obtain ⟨m,rfl⟩:∃ m:Nat,n=(m:Int):=⟨n.natAbs,by omega⟩
   have hit:itoa (m:Int)=decDigits m:=itoa_nat m
   have hlen:=decD_pow 18 m (by omega)
   have e1:∀ c:Nat,(c:Int).tmod 10=((c % 10:Nat):Int):=fun c=>tmod_nat c 10
   have e2:∀ c:Nat,(c:Int).tdiv 10=((c / 10:Nat):Int):=fun c=>tdiv_nat c 10
   have e3:∀ c:Nat,48+((c % 10:Nat):Int)=((48+c % 10:Nat):Int):=fun c=>by omega
   simp only [c_rdec,t_rdec_1,d1,e1,e2,e3,wrap8n (show 48+m % 10<256 by omega),Bs_o8 _ (show 48+m % 10<256 by omega),unB_Bs,awp_skip,awp_reg,awp_seq,awp_cond,awp_block,awp_loop,arun_nil,arun_op,aq_some,isB_f,isB_g,thenQ_n,astep,stV,stN,aval,anew,aElems,frzS,slots,Bs_len,aBin,aInt,arI,aToInt,aToStr,pureB,szOk,view,St.ev,lk,St.put,lenOk_1,↓reduceIte,true_and,List.length_cons,List.length_nil,reduceAdd,List.nil_append,List.getElem?_cons_zero,reduceCtorEq,eq_self,and_self]
   refine ⟨by omega,by (first | omega | (simp only [inI]; omega)),⟨by omega,by (first | omega | (simp only [inI]; omega))⟩,?_⟩
   refine loop_at [] [0,4] [] (fun a:Nat × List UInt8=>⟨[(0,.int .i64 (a.1:Int)),(4,.str a.2)],[]⟩) (fun a=>decP a.1 ++ a.2=decDigits m∧a.1≤m) (fun a=>a.1) (m / 10,[o8 (48+m % 10)]) rfl ⟨decD_last m,by simp only; omega⟩ ⟨rfl,rfl⟩ (fun a ha=>?_)
   obtain ⟨cur,s⟩:=a
   obtain ⟨ha,hb⟩:=ha
   simp only at ha hb
   have hl:=congrArg List.length ha
   rw [List.length_append] at hl
   by_cases hc:cur=0
   ·subst hc
    have d2:decide ((0:Int)<((0:Nat):Int))=false:=decide_eq_false (by omega)
    rw [decP_0,List.nil_append] at ha
    subst ha
    simp only [b_rdec_1,t_rdec_0,r_rdec,d2,hit,awp_reg,awp_seq,awp_cond,awp_exit,awp_ret,arun_nil,arun_op,aq_some,isB_f,isB_g,thenQ_n,thenQ_x,inQ_x,retQ_r,astep,stV,aval,aret,ares,aBin,aInt,St.ev,lk,St.put,lentO,renObj,posOf,↓reduceIte,reduceEqDiff,true_and,List.length_nil,Option.map,mapO,ren,kp,List.range,List.range.loop,reduceCtorEq,eq_self]
    simp only [renObj,finP,finI,closeIds,addNew,idsOf,List.flatMap_nil,List.take_zero,nodupB,posOf,idsObj,List.range,List.range.loop,ren,lentO,mapO,Option.map,and_true]
   ·have d2:decide ((0:Int)<(cur:Int))=true:=decide_eq_true (by omega)
    simp only [b_rdec_1,d2,e1,e2,e3,wrap8n (show 48+cur % 10<256 by omega),Bs_o8 _ (show 48+cur % 10<256 by omega),unB_Bs,awp_skip,awp_reg,awp_seq,awp_cond,awp_block,arun_nil,arun_op,aq_some,isB_t,thenQ_n,inQ_n,astep,stV,stN,aval,anew,aElems,frzS,Bs_len,aBin,aInt,aStr,arI,aToInt,aToStr,pureB,szOk,view,St.ev,lk,St.put,lentO,renObj,posOf,lenOk_1,↓reduceIte,reduceEqDiff,true_and,List.length_cons,List.length_nil,reduceAdd,List.nil_append,List.cons_append,Option.map,mapO,ren,kp,List.range,List.range.loop,List.getElem?_cons_zero,reduceCtorEq,eq_self,and_self]
    refine ⟨by omega,by (first | omega | (simp only [inI]; omega)),by (first | omega | (simp only [lenOk]; omega)),⟨by omega,by (first | omega | (simp only [inI]; omega))⟩,(cur / 10,o8 (48+cur % 10) :: s),⟨?_,by simp only; omega⟩,by simp only; omega,rfl⟩
    rw [decP_step (by omega),List.append_assoc] at ha
    exact ha
 ·cases hs
def i64v (n:Nat):Value:=.int .i64 (n:Int)
def hC (s:ShSt):List Value:=[i64v s.a,i64v s.b,i64v s.c,i64v s.d,i64v s.e]
def hN (h:ShSt) (i:Nat):Nat:=[h.a,h.b,h.c,h.d,h.e].getD i 0
def digs:List UInt8:=[48,49,50,51,52,53,54,55,56,57,97,98,99,100,101,102]
def hexL:List UInt8→List UInt8
 | []=>[]
 | b :: l=>digs.getD (b.toNat / 16) 0 :: digs.getD (b.toNat % 16) 0 :: hexL l
theorem hexL_length:∀ l,(hexL l).length=2 * l.length
 | []=>rfl
 | b :: l=>by simp [hexL,hexL_length l]; omega
theorem hexL_append:∀ l m,hexL (l ++ m)=hexL l ++ hexL m
 | [],m=>rfl
 | b :: l,m=>by simp [hexL,hexL_append l m]
set_option maxHeartbeats 1000000 in
set_option maxRecDepth 100000 in
theorem copyCheck_used (b:Nat) (w:World) (h0:w.cell? ⟨b,0,none⟩=some (.pointer (some ⟨b,0,none⟩))) :
  Calls Tryz.prog 120 #[.pointer (some ⟨b,0,none⟩)] w fun e w' => e=.returned (.tuple #[])∧w' = w:=by
 obtain ⟨j,hj,_⟩:=Option.map_eq_some_iff.1 (show (Tryz.prog.info? 144).map (·.size)=some 2 by kernel_rfl)
 go_enter Tryz.func120,Tryz.ntmps120
 go_wp2
 rw [Lib.run_neq_ptr_same w _ Tryz.underlying142 hj]
 go_wp2
 go_end0
 exact ⟨rfl,rfl⟩
set_option maxHeartbeats 1000000 in
set_option maxRecDepth 100000 in
theorem copyCheck_fresh (b:Nat) (w:World) (h0:w.cell? ⟨b,0,none⟩=some (.pointer none)) (hsh:w.shape? b=some (144,2)) (hfz:w.frozen? ⟨b,0,none⟩=false) :
  Calls Tryz.prog 120 #[.pointer (some ⟨b,0,none⟩)] w fun e w' => e=.returned (.tuple #[])∧w' = w.setCell ⟨b,0,none⟩ (.pointer (some ⟨b,0,none⟩)):=by
 obtain ⟨j,hj,hjs⟩:=Option.map_eq_some_iff.1 (show (Tryz.prog.info? 144).map (·.size)=some 2 by kernel_rfl)
 go_enter Tryz.func120,Tryz.ntmps120
 go_wp2
 rw [Lib.run_to_unsafe w ⟨b,0,none⟩ Tryz.underlying142 Tryz.underlying211 hj (by rw [hjs]; decide) hsh (Nat.zero_lt_succ 1)]
 simp only [Result.andThen]
 rw [Oper.upon_value]
 go_wp2
 rw [run_callFunc_extern Tryz.func152 (by kernel_rfl) (by kernel_rfl) (by kernel_rfl) (e:=Extern.AbiNoEscape.same) (by kernel_rfl)]
 rw [Lib.run_noEscape]
 simp only [Result.andThen]
 rw [Oper.upon_value]
 go_wp2
 rw [Lib.run_from_unsafe w ⟨b,0,none⟩ Tryz.underlying211 Tryz.underlying142 hj hsh (show liesAt Tryz.prog Tryz.prog.depth 144 (2 / Tryz.prog.cellsOf 144) 0 144 1=true by kernel_rfl)]
 simp only [Result.andThen]
 rw [Oper.upon_value]
 go_wp2
 go_end0
 exact ⟨rfl,rfl⟩
theorem copyCheck (B b:Nat) (bs:List Value) (w:World) (h:Lib.IsBuilder 144 5 B b bs w) :
  Calls Tryz.prog 120 #[.pointer (some ⟨b,0,none⟩)] w fun e w' => e=.returned (.tuple #[])∧(Lib.BuilderAt 144 5 B b (.pointer (some ⟨b,0,none⟩)) bs w' ∧ Below B w w'):=by
 rcases h with h | h
 ·refine (copyCheck_fresh b w h.cell0 h.shape h.frozen0).mono ?_
  rintro e w' ⟨rfl,rfl⟩
  exact ⟨rfl,h.used _,(Below.refl B w).setCell (p:=⟨b,0,none⟩) h.1 _⟩
 ·refine (copyCheck_used b w h.cell0).mono ?_
  rintro e w' ⟨rfl,rfl⟩
  exact ⟨rfl,h,Below.refl B _⟩
set_option maxHeartbeats 2000000 in
set_option maxRecDepth 100000 in
theorem writeByte (B b:Nat) (bs:List Value) (c:Int) (w:World) (h:Lib.IsBuilder 144 5 B b bs w) (hlen:bs.length+1≤140737488355328) (hBw:B≤w.heap.size) :
  Calls Tryz.prog 88 #[.pointer (some ⟨b,0,none⟩),.int .u8 c] w fun e w' => e=.returned .nilIface∧(Lib.BuilderAt 144 5 B b (.pointer (some ⟨b,0,none⟩)) (bs ++ [.int .u8 c]) w' ∧ Below B w w'):=by
 obtain ⟨i0,hi,hz0,hz1,hz2⟩:=info_parts (show (Tryz.prog.info? 5).map (fun i=>(i.zero,i.size,i.bytes))=some (some (.int .u8 0),1,1) by kernel_rfl)
 go_enter Tryz.func88,Tryz.ntmps88
 go_wp2_with (go_at_call 120; refine (copyCheck B b bs _ h).mono ?_)
 rintro e w1 ⟨rfl,h1,hb1⟩
 obtain ⟨hB,v,hbk,hown,hne⟩:=h1
 have c0:w1.cell? ⟨b,0,none⟩=some (.pointer (some ⟨b,0,none⟩)):=by rw [Lib.cell_of_heap hbk]; rfl
 have c1:w1.cell? ⟨b,1,none⟩=some v:=by rw [Lib.cell_of_heap hbk]; rfl
 go_wp2_with (at_builtin; refine wpList_append_own _ rfl _ _ 22 rfl B 5 i0 (.int .u8 0) 1 1 Tryz.underlying22 hi hz0 hz1 hz2 rfl (by decide) _ _ _ rfl (hown.alloc _) ⟨w1.heap.size,0,none⟩ 1 1 [.int .u8 c] rfl rfl ?c1 ?c2 ?c3 ?c4 ?c5 ?_)
 case c1 =>
  intro j u hj
  match j,hj with
  | 0,hj=>simp at hj; subst hj; simp [Addr.add]
 case c2=>intro u hu; simp at hu; subst hu; rfl
 case c3=>unfold maxLen; omega
 case c4=>omega
 case c5=>have:=hb1.size; simp; omega
 intro v' w2 hown' hgrow _
 have hlt:b<w1.heap.size:=by
  rcases Nat.lt_or_ge b w1.heap.size with h' | h'
  ·exact h'
  ·simp [Array.getElem?_eq_none h'] at hbk
 have hb2:w2.heap[b]?=some (.cells #[.pointer (some ⟨b,0,none⟩),v] 144 (0,0)):=by
  rw [hgrow.block b (by simp; omega) (fun e=>hne e.symm),Lib.alloc_old w1 _ b hlt]
  exact hbk
 have d0:w2.cell? ⟨b,0,none⟩=some (.pointer (some ⟨b,0,none⟩)):=by rw [Lib.cell_of_heap hb2]; rfl
 have d1:w2.cell? ⟨b,1,none⟩=some v:=by rw [Lib.cell_of_heap hb2]; rfl
 have f1:w2.frozen? ⟨b,1,none⟩=false:=Lib.frozen_of_heap hb2 1
 obtain ⟨g,cap,rfl⟩:∃ g cap,v' = .slice (some ⟨g,0,none⟩) (bs.length+1) cap:=by
  rcases hown'.2 with ⟨_,h0⟩ | ⟨g,cap,cur,hv,_⟩
  ·omega
  ·exact ⟨g,cap,hv⟩
 go_wp2
 go_ret
 refine ⟨rfl,?_,?_⟩
 ·exact Lib.BuilderAt.put (T:=144) (e:=5) hB hb2 (bs' := bs ++ [.int .u8 c]) (by simpa using hown') (by decide)
 ·exact ((hb1.alloc (by have:=hb1.size; omega) _).grown hgrow (by have:=hb1.size; simp; omega) (fun k hk=>(hown.lt k hk).1)).setCell (p:=⟨b,1,none⟩) hB _
end Go.Proofs.YtakolikdebfkeaaGreatDoor

namespace Go.Proofs.YtakolikdebfkeaaGreatDoor
open Go.RowKit
theorem index20 (l:List UInt8) (j:Nat) (hl:l.length=20) (hj:j<20) (w:World):(Instr.index 61 (.agg (l.map U).toArray) (.int .i64 (j:Int))).run Tryz.prog w=.ok (U (l.getD j 0)) w:=by
 have h1:(l.map U).toArray[j]?=some (U (l.getD j 0)):=by
  simp [List.getElem?_eq_getElem (show j<l.length by omega)]
 have e:(l.map U).toArray.size=20:=by simp; omega
 have hz:(0:Int)≤(j:Int):=by omega
 have hw:IntKind.i64.wrap (j:Int)=j:=IntWalk.i64_in _ (by omega)
 have hj2:(j:Int)<20:=by omega
 simp [go_sem,Instr.index,h1,e,run_underlying Tryz.underlying61,hw,hz,hj2]
 rw [if_pos hj,List.getElem?_eq_getElem (show j<l.length by omega)]
 rfl
def digS:ByteArray:=⟨#[48,49,50,51,52,53,54,55,56,57,97,98,99,100,101,102]⟩
theorem indexDig (k:Nat) (hk:k<16) (w:World):(Instr.index 9 (.string digS) (.int .u8 (k:Int))).run Tryz.prog w=.ok (.int .u8 ((digs.getD k 0).toNat:Int)) w:=by
 match k,hk with
 | 0,_=>exact (run_index_string w 9 digS .u8 _ Tryz.underlying9).trans rfl
 | 1,_=>exact (run_index_string w 9 digS .u8 _ Tryz.underlying9).trans rfl
 | 2,_=>exact (run_index_string w 9 digS .u8 _ Tryz.underlying9).trans rfl
 | 3,_=>exact (run_index_string w 9 digS .u8 _ Tryz.underlying9).trans rfl
 | 4,_=>exact (run_index_string w 9 digS .u8 _ Tryz.underlying9).trans rfl
 | 5,_=>exact (run_index_string w 9 digS .u8 _ Tryz.underlying9).trans rfl
 | 6,_=>exact (run_index_string w 9 digS .u8 _ Tryz.underlying9).trans rfl
 | 7,_=>exact (run_index_string w 9 digS .u8 _ Tryz.underlying9).trans rfl
 | 8,_=>exact (run_index_string w 9 digS .u8 _ Tryz.underlying9).trans rfl
 | 9,_=>exact (run_index_string w 9 digS .u8 _ Tryz.underlying9).trans rfl
 | 10,_=>exact (run_index_string w 9 digS .u8 _ Tryz.underlying9).trans rfl
 | 11,_=>exact (run_index_string w 9 digS .u8 _ Tryz.underlying9).trans rfl
 | 12,_=>exact (run_index_string w 9 digS .u8 _ Tryz.underlying9).trans rfl
 | 13,_=>exact (run_index_string w 9 digS .u8 _ Tryz.underlying9).trans rfl
 | 14,_=>exact (run_index_string w 9 digS .u8 _ Tryz.underlying9).trans rfl
 | 15,_=>exact (run_index_string w 9 digS .u8 _ Tryz.underlying9).trans rfl
 | k+16,hk=>exact absurd hk (by omega)
theorem u8_hi (u:UInt8):(u.toNat:Int) / 16=((u.toNat / 16:Nat):Int):=by omega
theorem u8_lo (u:UInt8):bits .and .u8 (u.toNat:Int) 15=((u.toNat % 16:Nat):Int):=by
 have h:=u8_and_nat u.toNat 15 u.toNat_lt (by omega)
 rw [show ((15:Nat):Int)=15 from rfl] at h
 rw [h,show (15:Nat)=2 ^ 4 - 1 from rfl,Nat.and_two_pow_sub_one_eq_mod]
theorem hexL_take (l:List UInt8) (k:Nat) (u:UInt8) (hk:k<l.length) (hu:l.getD k 0=u):hexL (l.take (k+1))=hexL (l.take k) ++ [digs.getD (u.toNat / 16) 0] ++ [digs.getD (u.toNat % 16) 0]:=by
 have e:l.take (k+1)=l.take k ++ [u]:=by
  rw [List.take_succ,List.getElem?_eq_getElem hk,← hu]
  simp [List.getElem?_eq_getElem hk]
 rw [e,hexL_append]
 simp [hexL]
theorem byteCells_snoc (X:List UInt8) (d:UInt8):Lib.byteCells X ++ [.int .u8 (d.toNat:Int)]=Lib.byteCells (X ++ [d]):=by simp [Lib.byteCells]
set_option maxHeartbeats 2000000 in
set_option maxRecDepth 100000 in
theorem shaHex (l:List UInt8) (h20:l.length=20) (w:World) :
  Calls Tryz.prog 41 #[.agg (l.map U).toArray] w fun e w' => e=.returned (.string ⟨(hexL l).toArray⟩)∧Below w.heap.size w w' := by
 go_enter Tryz.func41,Tryz.ntmps41
 go_wp2_with (with_reducible refine wpList_stop_load (ty:=61) (x:=.tmp 1) rfl ?_)
 have hS:=((Sep.start w).allocC (l.map U).toArray 61).allocC #[.pointer none,.slice none 0 0] 144
 rw [show (w.alloc (.cells (l.map U).toArray 61)).heap.size=w.heap.size+1 from World.size_alloc _ _] at hS
 refine unstop (wpList_load_row rfl 61 (.tmp 1) rfl w.heap.size rfl 61 (l.map U).toArray (0,0) _ (hS.blk 0 rfl) Tryz.underlying61 rfl (by rw [show (l.map U).toArray.size=20 by simp [h20]]; exact info20) ?_)
 have hb:Lib.IsBuilder 144 5 w.heap.size (w.heap.size+1) (Lib.byteCells (hexL [])) ((w.alloc (.cells (l.map U).toArray 61)).alloc (.cells #[.pointer none,.slice none 0 0] 144)) :=
  Or.inl ⟨by omega,.slice none 0 0,hS.blk 1 rfl,World.ownsRow_nil _ _ _ _,by simp [Value.ownBlock]⟩
 have hB:=hS.below
 clear hS
 go_wp2
 go_loopw [7] (fun i wr=>∃ k:Nat,k≤20∧i=.int .i64 k∧Lib.IsBuilder 144 5 w.heap.size (w.heap.size+1) (Lib.byteCells (hexL (l.take k))) wr∧Below w.heap.size w wr)
  (fun i _=>20 - (intOf i).toNat)
 case atStart=>exact ⟨0,by omega,rfl,by simpa using hb,hB⟩
 case round =>
  clear hb hB
  obtain ⟨k,hk,rfl,hb,hB⟩:=hrel
  by_cases hlt:k<20
  ·obtain ⟨u,hu⟩:∃ u,l.getD k 0=u:=⟨_,rfl⟩
   have hx:∀ w,(Instr.index 61 (.agg (l.map U).toArray) (.int .i64 (k:Int))).run Tryz.prog w=.ok (.int .u8 (u.toNat:Int)) w:=by
    rw [← hu]; exact index20 l k h20 hlt
   have h1:∀ w,(Instr.index 9 (.string ⟨#[48,49,50,51,52,53,54,55,56,57,97,98,99,100,101,102]⟩) (.int .u8 ((u.toNat:Int) / 16))).run Tryz.prog w=.ok (.int .u8 ((digs.getD (u.toNat / 16) 0).toNat:Int)) w:=fun w=>by
    have:=u.toNat_lt
    rw [u8_hi]; exact indexDig _ (by omega) w
   have h2:∀ w,(Instr.index 9 (.string ⟨#[48,49,50,51,52,53,54,55,56,57,97,98,99,100,101,102]⟩) (.int .u8 (bits .and .u8 (u.toNat:Int) 15))).run Tryz.prog w=.ok (.int .u8 ((digs.getD (u.toNat % 16) 0).toNat:Int)) w:=fun w=>by
    rw [u8_lo]; exact indexDig _ (by omega) w
   have htk:=hide (hexL_take l k u (by omega) hu)
   have hle:=hide (show (hexL (l.take k)).length≤40 by rw [hexL_length,List.length_take]; omega)
   generalize hexL (l.take k)=X at *
   generalize digs.getD (u.toNat / 16) 0=d1 at *
   generalize digs.getD (u.toNat % 16) 0=d2 at *
   go_wp2_with (at_builtin; refine stopAt ?_)
   refine (writeByte w.heap.size (w.heap.size+1) (Lib.byteCells X) _ wr hb (by rw [Lib.byteCells_length]; have:=hle.out; omega) hB.size).mono ?_
   rintro e w1 ⟨rfl,hb1,hB1⟩
   rw [byteCells_snoc] at hb1
   replace hB:=hB.trans hB1
   clear hb hB1
   go_wp2_with (at_builtin; refine stopAt ?_)
   refine (writeByte w.heap.size (w.heap.size+1) (Lib.byteCells (X ++ [d1])) _ w1 (.inr hb1) (by rw [Lib.byteCells_length,List.length_append]; have:=hle.out; simp; omega) hB.size).mono ?_
   rintro e w2 ⟨rfl,hb2,hB2⟩
   rw [byteCells_snoc] at hb2
   replace hB:=hB.trans hB2
   clear hb1 hB2
   go_wp2
   go_roundw
   case rel=>exact ⟨k+1,by omega,rfl,.inr (by rw [htk.out]; exact hb2),hB⟩
   case measure=>simp [intOf]; omega
  ·obtain rfl:k=20:=by omega
   rw [List.take_of_length_le (by omega)] at hb
   go_wp2_with (at_builtin; refine stopAt ?_)
   refine (Tryz.Builder_String_any w.heap.size (w.heap.size+1) (hexL l) wr hb hB.size).mono ?_
   rintro e w1 ⟨rfl,hB1⟩
   replace hB:=hB.trans hB1
   go_wp2
   go_ret
   exact ⟨rfl,hB⟩
theorem blob_U (l:List UInt8) (w:World) (S:Nat→Prop) (ρ:Rho):Vl w S ρ (.blob (l.map U)) (.agg (l.map U).toArray) :=
 Vl.blob' _ fun u hu=>by obtain ⟨x,_,rfl⟩:=List.mem_map.1 hu; rfl
def hexS:Spec:=fun xs hp=>match xs,hp with
 | [.blob cs],[]=>some ⟨.str (hexL (unV cs)),[],cs=(unV cs).map U∧cs.length=20⟩
 | _,_=>none
theorem hex_ok:FnOk Tryz.prog 41 hexS:=by
 refine fnok_of_calls fun xs0 hp r hs hp' => ?_
 unfold hexS at hs
 split at hs
 ·rename_i cs
  injection hs with hs; subst hs
  obtain ⟨p1,p2⟩:=hp'
  refine ⟨rfl,rfl,fun w S ρ args hS ha=>?_⟩
  obtain ⟨v,vs,rfl,hv,hr⟩:=ha.get _ _ rfl
  obtain rfl:=hr.none
  generalize unV cs=l at *
  subst p1
  rw [hv.blob]
  refine (shaHex l (by simpa using p2) w).mono ?_
  rintro e w' ⟨rfl,hb⟩
  exact ⟨_,rfl,hb,fun w' S ρ=>Vl.str' _⟩
 ·cases hs
def unSl:AV→List UInt8
 | .sl _ bs=>unB bs
 | _=>[]
def slB (l:List UInt8):AV:=.sl 1 (Bs l)
theorem css_recs {w:World} {S:Nat→Prop}:∀ (parts:List (List UInt8)) (us:List Value),Css w S rho0 (prs 1 (parts.map slB)) us→∃ xs:List BRec,xs.map (·.b)=parts∧us=xs.map BRec.cell∧∀ x∈xs,Rd w x.A x.b:=by
 intro parts
 induction parts with
 | nil=>intro us h; exact ⟨[],rfl,h,fun x hx=>by simp at hx⟩
 | cons l parts ih =>
  intro us h
  obtain ⟨u1,u2,rfl,h1,h2,h3⟩:=h
  obtain ⟨xs,x1,x2,x3⟩:=ih u2 h3
  obtain ⟨v,rfl⟩:∃ v,u1=[v]:=by
   match u1,h1 with
   | [v],_=>exact ⟨v,rfl⟩
  obtain ⟨A,n,c,us',rfl,hM⟩:=Mem.of_sl h2
  obtain ⟨r1,r2⟩:=hM.rd
  subst r2
  exact ⟨⟨A,c,l⟩ :: xs,by simp [x1],by simp [x2,BRec.cell],fun x hx=>by
   rcases List.mem_cons.1 hx with rfl | hx
   ·exact r1
   ·exact x3 x hx⟩
def sumS:Spec:=fun xs hp=>match xs,hp with
 | [.sl 1 ps],[]=>some ⟨.blob ((sha (ps.map unSl).flatten).map U),[],ps=(ps.map unSl).map slB∧ps.length≤1099511627776∧(ps.map unSl).flatten.length≤1099511627776⟩
 | _,_=>none
theorem sum_ok:FnOk Tryz.prog 76 sumS:=by
 refine fnok_of_calls fun xs0 hp r hs hp' => ?_
 unfold sumS at hs
 split at hs
 ·rename_i ps
  injection hs with hs; subst hs
  obtain ⟨p1,p2,p3⟩:=hp'
  refine ⟨rfl,rfl,fun w S ρ args hS ha=>?_⟩
  obtain ⟨v,vs,rfl,hv,hr⟩:=ha.get _ _ rfl
  obtain rfl:=hr.none
  generalize ps.map unSl=parts at *
  subst p1
  have hlen:parts.length≤1099511627776:=by simpa using p2
  obtain ⟨A,n,c,us,rfl,hM⟩:=Mem.of_sl hv.sl
  obtain ⟨xs,x1,x2,x3⟩:=css_recs parts us hM.css
  have hxl:xs.length=parts.length:=by rw [← x1,List.length_map]
  have hfl:flatR xs=parts.flatten:=by unfold flatR; rw [x1]
  have hrd:RdS w A xs:=by
   refine ⟨fun h0=>?_,x3⟩
   obtain ⟨b,o,e,hc⟩:=hM.cell (by rw [x2]; simpa using h0)
   refine ⟨b,o,e,fun j u hj=>?_⟩
   rw [← x2] at hj
   rw [hc j (List.getElem?_eq_some_iff.1 hj).1,hj]
  have hn:=hM.len
  rw [List.length_map] at hn
  refine (shaSum A n c xs w (by rw [hn,hxl]) hrd (by omega) (by rw [hfl]; exact p3)).mono ?_
  rintro e w' ⟨rfl,hb⟩
  exact ⟨_,rfl,hb,fun w' S ρ=>by rw [hfl]; exact blob_U _ _ _ _⟩
 ·cases hs
def c_oword:ACode:=(.seq (.reg none [oS 2 (.mv (.c (.str [])))]) (.seq (.reg none [oS 4 (.buildA [(.string ⟨#[]⟩),(.string ⟨#[]⟩),(.string ⟨#[]⟩),(.string ⟨#[]⟩),(.string ⟨#[]⟩)] [(0,(.c (.str []))),(1,(.c (.str [99,111,109,109,105,116]))),(2,(.c (.str [116,114,101,101]))),(3,(.c (.str [98,108,111,98]))),(4,(.c (.str [116,97,103])))]),oS 3 (.new 150 [(5,(.blob [(.string ⟨#[]⟩),(.string ⟨#[]⟩),(.string ⟨#[]⟩),(.string ⟨#[]⟩),(.string ⟨#[]⟩)]))]),oN (.st (.arr 5) (.t 3) (.t 4))]) (.seq (.seq (.reg none [oS 5 (.mv (.t 0)),oS 6 (.bin .lss (.t 5) (.c (.int .i64 1))),oS 7 (.mv (.t 6)),oH 8 (.mv (.t 0)) 7,oH 9 (.bin .gtr (.t 8) (.c (.int .i64 4))) 7,oS 10 (.pick (.t 7) (.c (.bool true)) (.t 9))]) (.cond (.t 10) (.seq (.reg none [oS 2 (.mv (.c (.str [])))]) .ret) .skip)) (.seq (.reg none [oS 11 (.mv (.t 0)),oS 12 (.iaA 5 (.t 3) (.t 11)),oS 13 (.ld (.one (.str [])) (.t 12)),oS 2 (.mv (.t 13))]) .ret))))
def r_oword:List ARes:=[(.t 2)]
theorem s_oword:slimF Tryz.prog Tryz.f42=some (c_oword,r_oword):=by kernel_rfl
def wordL:Int→List UInt8
 | 1=>[99,111,109,109,105,116]
 | 2=>[116,114,101,101]
 | 3=>[98,108,111,98]
 | 4=>[116,97,103]
 | _=>[]
theorem wordL_out {k:Int} (h:k<1∨4<k):wordL k=[]:=by
 unfold wordL
 split <;> first | rfl | omega
def wordS:Spec:=fun xs hp=>match xs,hp with
 | [.int .i64 k],[]=>some ⟨.str (wordL k),[],True⟩
 | _,_=>none
theorem oword_ok:FnOk Tryz.prog 42 wordS:=by
 refine fn_slim2 Tryz.func42 s_oword (Φ:=phiL []) phi_nil ?_
 intro xs hp r hs hp'
 unfold wordS at hs
 split at hs
 ·injection hs with hs; subst hs
  rename_i k
  refine ⟨len_le (by kernel_rfl),?_⟩
  have hcase:k<1∨4<k∨k=1∨k=2∨k=3∨k=4:=by omega
  rcases hcase with h | h | rfl | rfl | rfl | rfl
  ·rw [wordL_out (.inl h)]
   simp only [decide_eq_true h,c_oword,r_oword,go_sem,reduceDiv,reduceMod,↓reduceIte,reduceSub,Nat.reduceLT,reduceAdd,reduceCtorEq]
  ·rw [wordL_out (.inr h)]
   have h1:decide (k<1)=false:=decide_eq_false (by omega)
   simp only [decide_eq_true h,h1,c_oword,r_oword,go_sem,reduceDiv,reduceMod,↓reduceIte,reduceSub,Nat.reduceLT,reduceAdd,reduceCtorEq]
  ·simp only [c_oword,r_oword,wordL,Int.reduceLT,Int.reduceLE,Int.reduceToNat,List.getD_cons_zero,List.getD_cons_succ,ofC,decide_false,go_sem,reduceDiv,reduceMod,↓reduceIte,reduceSub,Nat.reduceLT,reduceAdd,reduceCtorEq,Int.reduceLT,Int.reduceLE,Int.reduceToNat]
   done
  ·simp only [c_oword,r_oword,wordL,Int.reduceLT,Int.reduceLE,Int.reduceToNat,List.getD_cons_zero,List.getD_cons_succ,ofC,decide_false,go_sem,reduceDiv,reduceMod,↓reduceIte,reduceSub,Nat.reduceLT,reduceAdd,reduceCtorEq,Int.reduceLT,Int.reduceLE,Int.reduceToNat]
  ·simp only [c_oword,r_oword,wordL,Int.reduceLT,Int.reduceLE,Int.reduceToNat,List.getD_cons_zero,List.getD_cons_succ,ofC,decide_false,go_sem,reduceDiv,reduceMod,↓reduceIte,reduceSub,Nat.reduceLT,reduceAdd,reduceCtorEq,Int.reduceLT,Int.reduceLE,Int.reduceToNat]
  ·simp only [c_oword,r_oword,wordL,Int.reduceLT,Int.reduceLE,Int.reduceToNat,List.getD_cons_zero,List.getD_cons_succ,ofC,decide_false,go_sem,reduceDiv,reduceMod,↓reduceIte,reduceSub,Nat.reduceLT,reduceAdd,reduceCtorEq,Int.reduceLT,Int.reduceLE,Int.reduceToNat]
 ·cases hs
def c_rword:ACode:=(.seq (.reg none [oS 2 (.mv (.c (.str [])))]) (.seq (.seq (.reg none [oS 3 (.mv (.t 0))]) (.block 0 (.seq (.reg none [oS 5 (.bin .eql (.t 3) (.c (.int .i64 1))),oS 4 (.mv (.t 5))]) (.cond (.t 4) (.seq (.reg none [oS 2 (.mv (.c (.str [99,111,109,109,105,116])))]) .ret) (.seq (.reg none [oS 7 (.bin .eql (.t 3) (.c (.int .i64 2))),oS 6 (.mv (.t 7))]) (.cond (.t 6) (.seq (.reg none [oS 2 (.mv (.c (.str [116,114,101,101])))]) .ret) (.seq (.reg none [oS 9 (.bin .eql (.t 3) (.c (.int .i64 3))),oS 8 (.mv (.t 9))]) (.cond (.t 8) (.seq (.reg none [oS 2 (.mv (.c (.str [98,108,111,98])))]) .ret) (.seq (.reg none [oS 11 (.bin .eql (.t 3) (.c (.int .i64 4))),oS 10 (.mv (.t 11))]) (.cond (.t 10) (.seq (.reg none [oS 2 (.mv (.c (.str [116,97,103])))]) .ret) .skip)))))))))) (.seq (.reg none [oS 2 (.mv (.c (.str [])))]) .ret)))
def r_rword:List ARes:=[(.t 2)]
theorem s_rword:slimF Tryz.prog Tryz.f53=some (c_rword,r_rword):=by kernel_rfl
theorem rword_ok:FnOk Tryz.prog 53 wordS:=by
 refine fn_slim2 Tryz.func53 s_rword (Φ:=phiL []) phi_nil ?_
 intro xs hp r hs hp'
 unfold wordS at hs
 split at hs
 ·injection hs with hs; subst hs
  rename_i k
  refine ⟨len_le (by kernel_rfl),?_⟩
  simp only [c_rword,r_rword,go_sem,reduceDiv,reduceMod,↓reduceIte]
  refine ⟨fun h=>by rw [of_decide_eq_true h]; rfl,fun h1=>⟨fun h=>by rw [of_decide_eq_true h]; rfl,fun h2=>⟨fun h=>by rw [of_decide_eq_true h]; rfl,fun h3=>⟨fun h=>by rw [of_decide_eq_true h]; rfl,fun h4=>?_⟩⟩⟩⟩
  have h1:=of_decide_eq_false h1
  have h2:=of_decide_eq_false h2
  have h3:=of_decide_eq_false h3
  have h4:=of_decide_eq_false h4
  rw [wordL_out (by omega)]
 ·cases hs
def b_okind_0:ACode:=(.seq (.seq (.reg none [oS 4 (.mv (.t 3)),oS 5 (.bin .leq (.t 4) (.c (.int .i64 4)))]) (.cond (.t 5) .skip (.exit 0))) (.seq (.block 1 (.seq (.reg none [oS 8 (.mv (.t 3)),oS 9 (.call 42 [(.t 8)]),oS 10 (.mv (.t 0)),oS 11 (.bin .eql (.t 9) (.t 10))]) (.cond (.t 11) (.seq (.reg none [oS 12 (.mv (.t 3)),oS 2 (.mv (.t 12))]) .ret) .skip))) (.reg none [oS 6 (.mv (.t 3)),oS 7 (.bin .add (.t 6) (.c (.int .i64 1))),oS 3 (.mv (.t 7))])))
def t_okind_0:ACode:=(.seq (.reg none [oS 2 (.mv (.c (.int .i64 0)))]) .ret)
def c_okind:ACode:=(.seq (.reg none [oS 2 (.mv (.c (.int .i64 0)))]) (.seq (.seq (.reg none [oS 3 (.mv (.c (.int .i64 1)))]) (.block 0 (.loop b_okind_0))) t_okind_0))
def r_okind:List ARes:=[(.t 2)]
theorem s_okind:slimF Tryz.prog Tryz.f47=some (c_okind,r_okind):=by kernel_rfl
def kindN (s:List UInt8):Int:=if wordL 1=s then 1 else if wordL 2=s then 2 else if wordL 3=s then 3 else if wordL 4=s then 4 else 0
theorem kindN_at {s:List UInt8} {k:Nat} (h1:1≤k) (h2:k≤4) (h:wordL k=s):kindN s=k:=by
 subst h
 match k,h1,h2 with
 | 1,_,_=>rfl
 | 2,_,_=>rfl
 | 3,_,_=>rfl
 | 4,_,_=>rfl
theorem kindN_no {s:List UInt8} (h:∀ j:Nat,1≤j→j<5→wordL j≠s):kindN s=0:=by
 unfold kindN
 have e1:wordL 1≠s:=h 1 (by omega) (by omega)
 have e2:wordL 2≠s:=h 2 (by omega) (by omega)
 have e3:wordL 3≠s:=h 3 (by omega) (by omega)
 have e4:wordL 4≠s:=h 4 (by omega) (by omega)
 rw [if_neg e1,if_neg e2,if_neg e3,if_neg e4]
def kindS:Spec:=fun xs hp=>match xs,hp with
 | [.str s],[]=>some ⟨.int .i64 (kindN s),[],True⟩
 | _,_=>none
theorem okind_ok:FnOk Tryz.prog 47 kindS:=by
 refine fn_slim2 Tryz.func47 s_okind (Φ:=phiL [(42,[],wordS)]) (phi_cons oword_ok (by kernel_rfl) phi_nil) ?_
 intro xs hp r hs hp'
 unfold kindS at hs
 split at hs
 ·injection hs with hs; subst hs
  rename_i s
  refine ⟨len_le (by kernel_rfl),?_⟩
  simp only [c_okind,go_sem,reduceDiv,reduceMod]
  refine loop2P [] [0,3] [] (fun k:Nat=>⟨[(0,.str s),(3,.int .i64 (k:Int))],[]⟩) (fun k=>1≤k∧k≤5∧∀ j:Nat,1≤j→j<k→wordL j≠s) (fun k=>5 - k) 1 rfl ⟨by omega,by omega,by omega⟩ ⟨rfl,rfl⟩ (fun k hk R hR=>?_)
  obtain ⟨k1,k2,k3⟩:=hk
  simp only [b_okind_0,t_okind_0,r_okind,wordS,go_sem,reduceDiv,reduceMod,↓reduceIte]
  refine ⟨fun h=>⟨fun e=>?_,fun e=>?_⟩,fun h=>?_⟩
  ·have h:=of_decide_eq_true h
   have e:=of_decide_eq_true e
   rw [kindN_at k1 (by omega) e]
  ·have h:=of_decide_eq_true h
   have e:=of_decide_eq_false e
   refine ⟨by (first | omega | (simp only [inI]; omega)),hR _ (k+1) ⟨by omega,by omega,fun j j1 j2=>?_⟩ (by omega) rfl⟩
   rcases Nat.lt_or_ge j k with hj | hj
   ·exact k3 j j1 hj
   ·rw [show j=k by omega]; exact e
  ·have h:=of_decide_eq_false h
   rw [kindN_no fun j j1 j2=>k3 j j1 (by omega)]
 ·cases hs
def c_ndec:ACode:=(.seq (.reg none [oS 2 (.mv (.c (.str [])))]) (.seq (.reg none [oS 3 (.mv (.t 0)),oS 4 (.call 94 [(.t 3)]),oS 2 (.mv (.t 4))]) .ret))
def r_ndec:List ARes:=[(.t 2)]
theorem s_ndec:slimF Tryz.prog Tryz.f119=some (c_ndec,r_ndec):=by kernel_rfl
theorem ndec_ok:FnOk Tryz.prog 119 itoaS:=by
 refine fn_slim2 Tryz.func119 s_ndec (Φ:=phiL [(94,[],itoaS)]) (phi_cons itoa_ok (by kernel_rfl) phi_nil) ?_
 intro xs hp r hs hp'
 unfold itoaS at hs
 split at hs
 ·injection hs with hs; subst hs
  rename_i k
  refine ⟨len_le (by kernel_rfl),?_⟩
  simp only [c_ndec,r_ndec,itoaS,go_sem,reduceDiv,reduceMod,↓reduceIte]
  first | exact hp' | exact ⟨hp',rfl⟩ | trivial
 ·cases hs
def c_few9:ACode:=(.seq (.reg none [oS 2 (.mv (.c (.con (.slice none 0 0))))]) (.seq (.reg none [oS 3 (.mv (.t 0)),oS 4 (.mv (.t 0)),oS 5 (.len none false (.t 4)),oS 6 (.mm false (.t 5) (.c (.int .i64 600))),oS 7 (.sl 1 (.t 3) none (some (.t 6))),oS 2 (.mv (.t 7))]) .ret))
def r_few9:List ARes:=[(.t 2)]
theorem s_few9:slimF Tryz.prog Tryz.f10=some (c_few9,r_few9):=by kernel_rfl
def c_known9:ACode:=(.seq (.reg none [oS 0 (.mv (.c (.bool false)))]) (.seq (.reg none [oS 4 (.call 40 [(.c (.int .i64 3)),(.c (.con (.slice none 0 0)))]),oS 3 (.mv (.t 4)),oS 5 (.ext (.t 3) 0),oS 6 (.ext (.t 3) 1),oS 1 (.new 61 [(20,(.blob (List.replicate 20 (.int .u8 0))))]),oN (.st (.arr 20) (.t 1) (.t 5)),oS 2 (.mv (.t 6))]) (.seq (.reg none [oS 7 (.mv (.t 2)),oS 8 (.bin .eql (.t 7) (.c (.int .i64 0))),oS 9 (.mv (.t 8)),oG 10 (.ld (.arr 20) (.t 1)) 9,oG 11 (.call 41 [(.t 10)]) 9,oG 12 (.bin .eql (.t 11) (.c (.str [101,54,57,100,101,50,57,98,98,50,100,49,100,54,52,51,52,98,56,98,50,57,97,101,55,55,53,97,100,56,99,50,101,52,56,99,53,51,57,49]))) 9,oS 13 (.pick (.t 9) (.t 12) (.c (.bool false))),oS 14 (.mv (.t 13)),oG 15 (.call 42 [(.c (.int .i64 4))]) 14,oG 16 (.bin .eql (.t 15) (.c (.str [116,97,103]))) 14,oS 17 (.pick (.t 14) (.t 16) (.c (.bool false))),oS 18 (.mv (.t 17)),oG 19 (.ld (.arr 20) (.t 1)) 18,oG 20 (.call 43 [(.t 19)]) 18,oG 21 (.bin .eql (.t 20) (.c (.str [111,98,106,101,99,116,115,47,101,54,47,57,100,101,50,57,98,98,50,100,49,100,54,52,51,52,98,56,98,50,57,97,101,55,55,53,97,100,56,99,50,101,52,56,99,53,51,57,49]))) 18,oS 22 (.pick (.t 18) (.t 21) (.c (.bool false))),oS 0 (.mv (.t 22))]) .ret)))
def r_known9:List ARes:=[(.t 0)]
theorem s_known9:slimF Tryz.prog Tryz.f12=some (c_known9,r_known9):=by kernel_rfl
def c_oid:ACode:=(.seq (.reg none [oS 4 (.new 61 [(20,(.blob (List.replicate 20 (.int .u8 0))))]),oS 5 (.mv (.c (.int .i64 0)))]) (.seq (.reg none [oS 9 (.mv (.t 0)),oS 10 (.mv (.t 1)),oS 11 (.call 87 [(.t 9),(.t 10)]),oS 8 (.mv (.t 11)),oS 12 (.ext (.t 8) 0),oS 13 (.ext (.t 8) 1),oS 6 (.mv (.t 12)),oS 7 (.mv (.t 13))]) (.seq (.seq (.reg none [oS 14 (.mv (.t 7)),oS 15 (.bin .neq (.t 14) (.c (.int .i64 0)))]) (.cond (.t 15) (.seq (.reg none [oS 16 (.buildA (List.replicate 20 (.int .u8 0)) []),oS 17 (.mv (.t 7)),oN (.st (.arr 20) (.t 4) (.t 16)),oS 5 (.mv (.t 17))]) .ret) .skip)) (.seq (.reg none [oS 18 (.mv (.t 6)),oS 19 (.mv (.t 1)),oS 20 (.buildSl 22 1 [(.t 18),(.t 19)]),oS 21 (.call 76 [(.t 20)]),oN (.st (.arr 20) (.t 4) (.t 21)),oS 5 (.mv (.c (.int .i64 0)))]) .ret))))
def r_oid:List ARes:=[(.c 4 (.arr 20)),(.t 5)]
theorem s_oid:slimF Tryz.prog Tryz.f40=some (c_oid,r_oid):=by kernel_rfl
def c_ofront:ACode:=(.seq (.reg none [oS 4 (.mv (.c (.con (.slice none 0 0)))),oS 5 (.mv (.c (.int .i64 0)))]) (.seq (.block 0 (.seq (.reg none [oS 7 (.mv (.t 0)),oS 8 (.call 42 [(.t 7)]),oS 9 (.bin .eql (.t 8) (.c (.str []))),oS 6 (.mv (.t 9))]) (.cond (.t 6) (.seq (.reg none [oS 4 (.mv (.c (.con (.slice none 0 0)))),oS 5 (.mv (.c (.int .i64 1)))]) .ret) (.seq (.reg none [oS 11 (.mv (.t 1)),oS 12 (.len none false (.t 11)),oS 13 (.bin .gtr (.t 12) (.c (.int .i64 16777216))),oS 10 (.mv (.t 13))]) (.cond (.t 10) (.seq (.reg none [oS 4 (.mv (.c (.con (.slice none 0 0)))),oS 5 (.mv (.c (.int .i64 2)))]) .ret) .skip))))) (.seq (.reg none [oS 14 (.mv (.t 0)),oS 15 (.call 42 [(.t 14)]),oS 16 (.bin .add (.t 15) (.c (.str [32]))),oS 17 (.mv (.t 1)),oS 18 (.len none false (.t 17)),oS 19 (.call 119 [(.t 18)]),oS 20 (.bin .add (.t 16) (.t 19)),oS 21 (.bin .add (.t 20) (.c (.str [0]))),oS 22 (.bytes 5 (.t 21)),oS 4 (.mv (.t 22)),oS 5 (.mv (.c (.int .i64 0)))]) .ret)))
def r_ofront:List ARes:=[(.t 4),(.t 5)]
theorem s_ofront:slimF Tryz.prog Tryz.f87=some (c_ofront,r_ofront):=by kernel_rfl
def c_opath:ACode:=(.seq (.reg none [oS 1 (.box 61 20 (.t 0)),oS 2 (.mv (.c (.str [])))]) (.seq (.reg none [oS 4 (.ld (.arr 20) (.t 1)),oS 5 (.call 41 [(.t 4)]),oS 3 (.mv (.t 5))]) (.seq (.reg (some [(0,false),(1,false),(2,false),(3,false),(4,false),(5,false),(6,true),(7,true)]) [oS 6 (.mv (.t 3)),oS 7 (.slS (.t 6) none (some (.c (.int .i64 2)))),oS 8 (.bin .add (.c (.str [111,98,106,101,99,116,115,47])) (.t 7)),oS 9 (.bin .add (.t 8) (.c (.str [47]))),oS 10 (.mv (.t 3)),oS 11 (.slS (.t 10) (some (.c (.int .i64 2))) none),oS 12 (.bin .add (.t 9) (.t 11)),oS 2 (.mv (.t 12))]) .ret)))
def r_opath:List ARes:=[(.t 2)]
theorem s_opath:slimF Tryz.prog Tryz.f43=some (c_opath,r_opath):=by kernel_rfl
def few9S:Spec:=fun xs hp=>match xs,hp with
 | [.sl 1 bs],[]=>some ⟨.sl 1 (bs.take 600),[],True⟩
 | _,_=>none
theorem few9_ok:FnOk Tryz.prog 10 few9S:=by
 refine fn_slim2 Tryz.func10 s_few9 (Φ:=phiL []) phi_nil ?_
 intro xs hp r hs hp'
 unfold few9S at hs
 split at hs
 ·injection hs with hs; subst hs
  rename_i bs
  refine ⟨len_le (by kernel_rfl),?_⟩
  simp only [c_few9,r_few9,go_sem,reduceDiv,reduceMod,↓reduceIte,reduceEqDiff,Nat.reduceBEq,reduceSub,Nat.reduceLT,reduceAdd,reduceLeDiff,reduceCtorEq,Int.reduceEq,Int.reduceNe,Int.reduceLT,Int.reduceLE,Int.reduceToNat]
  rcases Nat.le_total bs.length 600 with h | h
  ·rw [show min (bs.length:Int) 600=(bs.length:Int) by omega,List.take_of_length_le h]
   simp only [Int.toNat_natCast,List.drop_zero,List.take_length,go_sem,reduceDiv,reduceMod,↓reduceIte,reduceEqDiff,Nat.reduceBEq,reduceSub,Nat.reduceLT,reduceAdd,reduceLeDiff,reduceCtorEq,Int.reduceEq,Int.reduceNe,Int.reduceLT,Int.reduceLE,Int.reduceToNat]
   (first | omega | (simp only [lenOk,bytesOk,inI,IntKind.bits,List.length_append,Bs_len,List.length_cons,List.length_nil,List.length_map,List.length_take,List.length_drop,List.length_replicate]; omega))
  ·rw [show min (bs.length:Int) 600=600 by omega]
   simp only [Int.reduceToNat,List.drop_zero,go_sem,reduceDiv,reduceMod,↓reduceIte,reduceEqDiff,Nat.reduceBEq,reduceSub,Nat.reduceLT,reduceAdd,reduceLeDiff,reduceCtorEq,Int.reduceEq,Int.reduceNe,Int.reduceLT,Int.reduceLE,Int.reduceToNat]
   (first | omega | (simp only [lenOk,bytesOk,inI,IntKind.bits,List.length_append,Bs_len,List.length_cons,List.length_nil,List.length_map,List.length_take,List.length_drop,List.length_replicate]; omega))
 ·cases hs
open Go.Lib (itoa)
def frontL (k:Int) (n:Nat):List UInt8:=wordL k ++ [32] ++ itoa (n:Int) ++ [0]
theorem wordL_len (k:Int):(wordL k).length≤6:=by unfold wordL; split <;> simp
theorem itoaN_len (n:Nat) (h:n≤1000000000000):(itoa (n:Int)).length≤21:=Lib.itoa_length_le _ (by omega) (by omega)
theorem frontL_len (k:Int) (n:Nat) (h:n≤1000000000000):(frontL k n).length≤40:=by
 have h1:=wordL_len k
 have h2:=itoaN_len n h
 simp only [frontL,List.length_append,List.length_cons,List.length_nil]; omega
def frontR (k:Int) (n:Nat) (pr:Prop):Option Ret :=
 if wordL k=[] then some ⟨.tup [.con (.slice none 0 0),.int .i64 1],[],pr⟩
 else if 16777216<n then some ⟨.tup [.con (.slice none 0 0),.int .i64 2],[],pr⟩
 else some ⟨.tup [.own 0 0,.int .i64 0],[.row 5 1 0 (Bs (frontL k n))],pr⟩
def frontS:Spec:=fun xs hp=>match xs,hp with
 | [.int .i64 k,.sl 1 bs],[]=>frontR k bs.length (bs.length≤1000000000000)
 | _,_=>none
theorem frontR_w {k:Int} (n:Nat) (pr:Prop) (h:wordL k=[]):frontR k n pr=some ⟨.tup [.con (.slice none 0 0),.int .i64 1],[],pr⟩:=by unfold frontR; rw [if_pos h]
theorem frontR_l {k:Int} {n:Nat} (pr:Prop) (h:wordL k≠[]) (h2:16777216<n):frontR k n pr=some ⟨.tup [.con (.slice none 0 0),.int .i64 2],[],pr⟩:=by unfold frontR; rw [if_neg h,if_pos h2]
theorem frontR_o {k:Int} {n:Nat} (pr:Prop) (h:wordL k≠[]) (h2:¬ 16777216<n):frontR k n pr=some ⟨.tup [.own 0 0,.int .i64 0],[.row 5 1 0 (Bs (frontL k n))],pr⟩:=by unfold frontR; rw [if_neg h,if_neg h2]
theorem frontR_pre {k:Int} {n:Nat} {pr:Prop} {r:Ret} (h:frontR k n pr=some r) (hr:r.pre):pr:=by
 unfold frontR at h
 split at h
 ·injection h with h; subst h; exact hr
 ·split at h <;> (injection h with h; subst h; exact hr)
theorem front_ok:FnOk Tryz.prog 87 frontS:=by
 refine fn_slim2 Tryz.func87 s_ofront (Φ:=phiL [(42,[],wordS),(119,[],itoaS)]) (phi_cons oword_ok (by kernel_rfl) (phi_cons ndec_ok (by kernel_rfl) phi_nil)) ?_
 intro xs hp r hs hp'
 unfold frontS at hs
 split at hs
 ·rename_i k bs
  have hb:=frontR_pre hs hp'
  refine ⟨len_le (by kernel_rfl),?_⟩
  by_cases h:wordL k=[]
  ·rw [frontR_w _ _ h] at hs
   injection hs with hs; subst hs
   simp only [c_ofront,r_ofront,wordS,h,decide_true,go_sem,reduceDiv,reduceMod,↓reduceIte,reduceAdd]
  ·have d0:decide (wordL k=[])=false:=decide_eq_false h
   by_cases h2:16777216<bs.length
   ·rw [frontR_l _ h h2] at hs
    injection hs with hs; subst hs
    have d1:decide ((16777216:Int)<(bs.length:Int))=true:=decide_eq_true (by omega)
    simp only [c_ofront,r_ofront,wordS,d0,d1,go_sem,reduceDiv,reduceMod,↓reduceIte,reduceAdd]
   ·rw [frontR_o _ h h2] at hs
    injection hs with hs; subst hs
    have d1:decide ((16777216:Int)<(bs.length:Int))=false:=decide_eq_false (by omega)
    have l1:=wordL_len k
    have l2:=itoaN_len bs.length hb
    simp only [c_ofront,r_ofront,wordS,itoaS,d0,d1,go_sem,reduceDiv,reduceMod,↓reduceIte,reduceEqDiff,reduceAdd]
    repeat' apply And.intro
    all_goals first | rfl | (first | omega | (simp only [lenOk,List.length_append,List.length_cons,List.length_nil]; omega))
 ·cases hs
def idR (k:Int) (l:List UInt8) (pr:Prop):Option Ret :=
 if wordL k=[] then some ⟨.tup [.blob (List.replicate 20 (.int .u8 0)),.int .i64 1],[],pr⟩
 else if 16777216<l.length then some ⟨.tup [.blob (List.replicate 20 (.int .u8 0)),.int .i64 2],[],pr⟩
 else some ⟨.tup [.blob ((sha (frontL k l.length ++ l)).map U),.int .i64 0],[],pr⟩
def idS:Spec:=fun xs hp=>match xs,hp with
 | [.int .i64 k,.sl 1 bs],[]=>idR k (unB bs) (bs=Bs (unB bs)∧bs.length≤1000000000000)
 | _,_=>none
theorem idR_pre {k:Int} {l:List UInt8} {pr:Prop} {r:Ret} (h:idR k l pr=some r) (hr:r.pre):pr:=by
 unfold idR at h
 split at h
 ·injection h with h; subst h; exact hr
 ·split at h <;> (injection h with h; subst h; exact hr)
theorem sha_len20 (l:List UInt8):(sha l).length=20:=by unfold sha; exact bytes_len _
theorem unSl_Bs (l:List UInt8):unSl (.sl 1 (Bs l))=l:=unB_Bs l
theorem id_ok:FnOk Tryz.prog 40 idS:=by
 refine fn_slim2 Tryz.func40 s_oid (Φ:=phiL [(87,[],frontS),(76,[],sumS)]) (phi_cons front_ok (by kernel_rfl) (phi_cons sum_ok (by kernel_rfl) phi_nil)) ?_
 intro xs hp r hs hp'
 unfold idS at hs
 split at hs
 ·rename_i k bs
  obtain ⟨p1,p2⟩:=idR_pre hs hp'
  refine ⟨len_le (by kernel_rfl),?_⟩
  generalize unB bs=l at *
  subst p1
  rw [Bs_len] at p2
  unfold idR at hs
  by_cases h:wordL k=[]
  ·rw [if_pos h] at hs
   injection hs with hs; subst hs
   simp only [c_oid,r_oid,frontS,frontR_w _ _ h,go_sem,reduceDiv,reduceMod,↓reduceIte,reduceSub,Nat.reduceLT,reduceAdd,reduceCtorEq,Int.reduceEq]
   exact p2
  ·rw [if_neg h] at hs
   by_cases h2:16777216<l.length
   ·rw [if_pos h2] at hs
    injection hs with hs; subst hs
    simp only [c_oid,r_oid,frontS,frontR_l _ h h2,go_sem,reduceDiv,reduceMod,↓reduceIte,reduceSub,Nat.reduceLT,reduceAdd,reduceCtorEq,Int.reduceEq]
    exact p2
   ·rw [if_neg h2] at hs
    injection hs with hs; subst hs
    have l1:=frontL_len k l.length p2
    simp only [c_oid,r_oid,frontS,frontR_o _ h h2,sumS,unSl_Bs,slB,sha_len20,go_sem,reduceDiv,reduceMod,↓reduceIte,reduceEqDiff,reduceSub,Nat.reduceLT,reduceAdd,reduceLeDiff,reduceCtorEq]
    simp only [List.length_append]
    refine ⟨p2,?_⟩
    repeat' apply And.intro
    all_goals first | rfl | omega
 ·cases hs
def pathL (h:List UInt8):List UInt8:=[111,98,106,101,99,116,115,47] ++ h.take 2 ++ [47] ++ h.drop 2
def pathS:Spec:=fun xs hp=>match xs,hp with
 | [.blob cs],[]=>some ⟨.str (pathL (hexL (unV cs))),[],cs=(unV cs).map U∧cs.length=20⟩
 | _,_=>none
theorem path_ok:FnOk Tryz.prog 43 pathS:=by
 refine fn_slim2 Tryz.func43 s_opath (Φ:=phiL [(41,[],hexS)]) (phi_cons hex_ok (by kernel_rfl) phi_nil) ?_
 intro xs hp r hs hp'
 unfold pathS at hs
 split at hs
 ·injection hs with hs; subst hs
  rename_i cs
  obtain ⟨p1,p2⟩:=hp'
  refine ⟨len_le (by kernel_rfl),?_⟩
  generalize unV cs=l at *
  subst p1
  rw [List.length_map] at p2
  have hl:(hexL l).length=40:=by rw [hexL_length,p2]
  simp only [c_opath,r_opath,hexS,unV_U,hl,go_sem,reduceDiv,reduceMod,↓reduceIte,reduceAdd,reduceCtorEq,Int.reduceLE,Int.reduceToNat]
  generalize hexL l=h at *
  repeat' apply And.intro
  all_goals first | omega | (first | omega | (simp only [lenOk,List.length_append,List.length_cons,List.length_nil,List.length_take,List.length_drop]; omega)) | skip
  have e:h.take 40=h:=List.take_of_length_le (by omega)
  rw [e]; rfl
 ·cases hs
end Go.Proofs.YtakolikdebfkeaaGreatDoor
