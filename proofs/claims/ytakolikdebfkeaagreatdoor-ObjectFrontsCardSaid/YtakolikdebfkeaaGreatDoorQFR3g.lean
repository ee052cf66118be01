import Derived.Test.YtakolikdebfkeaaGreatDoorQFR3d
import Derived.Test.YtakolikdebfkeaaGreatDoorChecked
import Derived.Test.YtakolikdebfkeaaGreatDoorQAM9
import Derived.Test.YtakolikdebfkeaaGreatDoorQInfLaw5
open Nat (reduceDiv reduceMod reduceSub reduceAdd reduceLeDiff reduceEqDiff)
set_option linter.all false
namespace Go.Proofs.YtakolikdebfkeaaGreatDoor
open Go.RowKit
def r3fixF:Spec:=fun xs hp=>match xs,hp with
 | [],[]=>some ⟨.tup [.sl 1 (fixL.map iV),.sl 1 (fixD.map iV)],[],True⟩
 | _,_=>none
theorem r3fixF_ok:FnOk Tryz.prog 36 r3fixF:=r3fix_ok.freezeD fun xs hp r' hs hp' => by
 unfold r3fixF at hs
 split at hs
 ·injection hs with hs; subst hs
  exact ⟨rfl,_,rfl,trivial,rfl,by simp [fzV,fzD],rfl,rfl⟩
 ·cases hs
def r3codesF:Spec:=fun xs hp=>match xs,hp with
 | [.sl 1 ms],[]=>some ⟨.sl 1 (codesV (unN3 ms)),[],ms=(unN3 ms).map iV∧roomL (unN3 ms)∧(∀ l∈unN3 ms,l≤15)∧ms.length≤1000⟩
 | _,_=>none
theorem r3codesF_ok:FnOk Tryz.prog 38 r3codesF:=r3codes_ok.freezeD fun xs hp r' hs hp' => by
 unfold r3codesF at hs
 split at hs
 ·injection hs with hs; subst hs
  exact ⟨rfl,_,rfl,hp',rfl,by simp [fzV,fzD],rfl,rfl⟩
 ·cases hs
theorem fixL_15:∀ l,l∈fixL→l≤15:=by decide +kernel
theorem fixD_15:∀ l,l∈fixD→l≤15:=by decide +kernel
def r3raw0S:Spec:=fun xs hp=>match xs,hp with
 | [.sl k ps,.int .i64 m],[]=>match rawE tdNo (unB ps) m.toNat with
  | .ok (o,n)=>some ⟨.tup [.own 0 o.length,.int .i64 (n:Int),.int .i64 0],[.row 5 1 o.length (Bs o)],inpOk k ps∧0≤m∧m≤100000000⟩
  | .error _=>none
 | _,_=>none
structure R3R where
 f:Nat
 p:Nat
 out:List UInt8
theorem phR3R_ok:PhiOk Tryz.prog (phiL [(32,[],r3bitS),(33,[],r3numS),(35,[],r3putS),(37,[],r3signsS),(36,[],r3fixF),(38,[],r3codesF)]):=phi_cons r3bit_ok (by kernel_rfl) (phi_cons r3num_ok (by kernel_rfl) (phi_cons r3put_ok (by kernel_rfl) (phi_cons r3signs_ok (by kernel_rfl) (phi_cons r3fixF_ok (by kernel_rfl) (phi_cons r3codesF_ok (by kernel_rfl) phi_nil)))))
set_option maxHeartbeats 2000000 in
set_option maxRecDepth 8000 in
theorem r3raw0_ok:FnOk Tryz.prog 11 r3raw0S:=by
 refine fn_slim2 Tryz.func11 s_r3raw phR3R_ok ?_
 intro xs hp r hs hp'
 unfold r3raw0S at hs
 split at hs
 ·rename_i k ps m
  split at hs
  ·rename_i o n hb
   injection hs with hs; subst hs
   obtain ⟨h1,h2,h3⟩:=hp'
   obtain ⟨mo,rfl⟩:∃ p:Nat,m=p:=⟨m.toNat,by omega⟩
   have hps:=h1.1
   generalize unB ps=b at *
   subst hps
   have hl:=inp_len h1
   rw [Int.toNat_natCast] at hb
   unfold rawE at hb
   cases hgo:rawGo tdNo (bitsOf b) mo (8 * b.length+1) 0 [] with
   | error e=>rw [hgo] at hb; cases hb
   | ok w =>
    obtain ⟨o',q⟩:=w
    rw [hgo] at hb
    injection hb with hb; injection hb with e1 e2
    subst e1 e2
    obtain ⟨w1,w2⟩:=rawGo_pos tdNo_ok (Nat.zero_le _) hgo
    rw [bitsOf_length] at w1
    simp only [List.length_nil] at w2
    refine ⟨len_le (by kernel_rfl),?_⟩
    simp only [c_r3raw,go_sem,reduceDiv,reduceMod,↓reduceIte,reduceSub,reduceAdd,reduceLeDiff,reduceCtorEq]
    refine loop2P [(4096+2,5,1)] [7] [0,1] (fun i:R3R=>⟨[(7,.ref 0 0 0)],[.cells 69 [(1,.sl k (Bs b)),(1,.int .i64 (i.p:Int)),(1,.own 1 i.out.length),(1,.int .i64 (mo:Int)),(1,.int .i64 0)],.row 5 1 i.out.length (Bs i.out)]⟩) (fun i=>i.p≤8 * b.length∧i.out.length≤mo∧rawGo tdNo (bitsOf b) mo i.f i.p i.out=.ok (o',q)) (fun i=>i.f) ⟨8 * b.length+1,0,[]⟩ (by rfl) ⟨Nat.zero_le _,Nat.zero_le _,hgo⟩ ⟨rfl,by rfl⟩ (fun i hi R hR=>?_)
    obtain ⟨f,p,out⟩:=i
    obtain ⟨i1,i2,i3⟩:=hi
    simp only at i1 i2 i3
    cases f with
    | zero=>cases i3
    | succ f =>
     rw [rawGo] at i3
     unfold rawK at i3
     split at i3
     ·cases i3
     ·rename_i last p1 hb1
      obtain ⟨x1,x2⟩:=bitE_pos hb1
      rw [bitsOf_length] at x2
      split at i3
      ·cases i3
      ·rename_i ty p2 hn
       obtain ⟨y1,y2,y3⟩:=numE_ok hn
       rw [bitsOf_length] at y1
       have hty:=numB_lt (bitsOf b) p1 2
       rw [← y2] at hty
       split at i3
       ·cases i3
       ·rename_i o p3 hbl
        obtain ⟨z1,z2,z3,z4⟩:=block_pos tdNo_ok (by rw [bitsOf_length]; omega) hbl
        rw [bitsOf_length] at z2
        have ev:out.length+(o.length - out.length)=o.length:=by omega
        unfold blockE at hbl
        split at hbl
        ·rename_i k0
         subst k0
         unfold storedE at hbl
         split at hbl
         ·cases hbl
         ·rename_i nn q1 hn1
          obtain ⟨v1,v2,v3⟩:=numE_ok hn1
          rw [bitsOf_length] at v1
          have hnn:=numB_lt (bitsOf b) ((p2+7) / 8 * 8) 16
          rw [← v2] at hnn
          split at hbl
          ·cases hbl
          ·rename_i mm q2 hn2
           obtain ⟨v4,v5,v6⟩:=numE_ok hn2
           rw [bitsOf_length] at v4
           split at hbl
           ·rename_i hmm
            have c0:decide (((0:Nat):Int)=0)=true:=rfl
            simp only [b_r3raw_2,r3bitS,r3numS,unB_Bs,Int.toNat_natCast,Int.reduceToNat,hb1,hn,go_sem,reduceDiv,reduceMod,↓reduceIte,reduceEqDiff,Nat.reduceBEq,reduceSub,Nat.reduceLT,reduceAdd,reduceLeDiff,reduceCtorEq,Int.reduceLT,Int.reduceLE,Int.reduceToNat]
            refine ⟨⟨h1,by omega⟩,⟨h1,by omega⟩,?_⟩
            refine loop2P [] [7,8] [0,1] (fun j:Nat=>⟨[(7,.ref 0 0 0),(8,.int .i64 (last:Int))],[.cells 69 [(1,.sl k (Bs b)),(1,.int .i64 (j:Int)),(1,.own 1 out.length),(1,.int .i64 (mo:Int)),(1,.int .i64 0)],.row 5 1 out.length (Bs out)]⟩) (fun j=>p2≤j∧j≤(p2+7) / 8 * 8) (fun j=>(p2+7) / 8 * 8 - j) p2 (by rfl) ⟨Nat.le_refl _,by omega⟩ ⟨rfl,by rfl⟩ (fun j hj R2 hR2=>?_)
            obtain ⟨j1,j2⟩:=hj
            have e8:(j:Int).tmod 8=((j % 8:Nat):Int):=rfl
            by_cases hj8:j % 8=0
            ·have c2:decide (((j % 8:Nat):Int)=0)=true:=decide_eq_true (by omega)
             obtain rfl:j=(p2+7) / 8 * 8:=by omega
             have c3:decide ((mm:Int)=65535 - (nn:Int))=true:=decide_eq_true (by omega)
             simp only [b_r3raw_0,r3numS,unB_Bs,Int.toNat_natCast,Int.reduceToNat,e8,c2,c3,hn1,hn2,go_sem,reduceDiv,reduceMod,↓reduceIte,reduceEqDiff,Nat.reduceBEq,reduceSub,Nat.reduceLT,reduceAdd,reduceCtorEq,Int.reduceNe,Int.reduceLT,Int.reduceLE,Int.reduceToNat]
             refine ⟨⟨h1,by omega⟩,⟨h1,by omega⟩,by (first | omega | (simp only [inI]; omega)),?_⟩
             have hlen:=bytesE_len hbl
             refine loop2P [] [7,8,9,10] [0,1] (fun j:R3R=>⟨[(7,.ref 0 0 0),(8,.int .i64 (last:Int)),(9,.int .i64 (nn:Int)),(10,.int .i64 (j.f:Int))],[.cells 69 [(1,.sl k (Bs b)),(1,.int .i64 (j.p:Int)),(1,.own 1 j.out.length),(1,.int .i64 (mo:Int)),(1,.int .i64 0)],.row 5 1 j.out.length (Bs j.out)]⟩) (fun j=>j.f≤nn∧bytesE (bitsOf b) mo (nn - j.f) j.p j.out=.ok (o,p3)∧j.p≤8 * b.length∧j.out.length=out.length+j.f) (fun j=>nn - j.f) ⟨0,q2,out⟩ (by rfl) ⟨Nat.zero_le _,hbl,by simp only; omega,rfl⟩ ⟨rfl,by rfl⟩ (fun j hj R3 hR3=>?_)
             obtain ⟨j,pj,oj⟩:=j
             obtain ⟨t1,t2,t3,t4⟩:=hj
             simp only at t1 t2 t3 t4
             by_cases hjn:j<nn
             ·have c4:decide ((j:Int)<(nn:Int))=true:=decide_eq_true (by omega)
              rw [show nn - j=(nn - (j+1))+1 by omega,bytesE_succ] at t2
              split at t2
              ·cases t2
              ·rename_i cc pc hcc
               obtain ⟨cc1,cc2,cc3⟩:=numE_ok hcc
               rw [bitsOf_length] at cc1
               have hc8:=numB_lt (bitsOf b) pj 8
               rw [← cc2] at hc8
               split at t2
               ·cases t2
               ·rename_i o4 ho4
                obtain ⟨rfl,hlt⟩:=put_len ho4
                have hw:IntKind.u8.wrap (cc:Int)=(cc:Int):=by rw [IntKind.wrap_u8']; omega
                have hov:oj.length+1=(oj ++ [UInt8.ofNat cc]).length:=by rw [List.length_append]; rfl
                simp only [b_r3raw_1,r3numS,r3putS,unB_Bs,Int.toNat_natCast,Int.reduceToNat,c4,hcc,hw,hov,go_sem,reduceDiv,reduceMod,↓reduceIte,reduceEqDiff,Nat.reduceBEq,reduceSub,Nat.reduceLT,reduceAdd,reduceLeDiff,reduceCtorEq,Int.reduceLT,Int.reduceLE,Int.reduceToNat]
                exact ⟨⟨h1,by omega⟩,⟨⟨by rw [unB_Bs],rfl,by omega,by omega⟩,by omega,by omega,by omega⟩,by (first | omega | (simp only [inI]; omega)),hR3 _ ⟨j+1,pc,_⟩ ⟨by simp only; omega,t2,by simp only; omega,by simp only [List.length_append,List.length_singleton]; omega⟩ (by simp only; omega) rfl⟩
             ·have c4:decide ((j:Int)<(nn:Int))=false:=decide_eq_false (by omega)
              obtain rfl:j=nn:=by omega
              rw [Nat.sub_self] at t2
              injection t2 with t2; injection t2 with e1 e2
              have e1:=e1.symm
              have e2:=e2.symm
              subst e1 e2
              by_cases hx1:last=1
              ·have cL:decide ((last:Int)=1)=true:=decide_eq_true (by omega)
               rw [if_pos hx1] at i3
               injection i3 with i3; injection i3 with e1 e2
               subst e1 e2
               have e7:((p3:Int)+7).tdiv 8=(((p3+7) / 8:Nat):Int):=rfl
               simp only [b_r3raw_1,c4,t_r3raw_0,t_r3raw_1,r_r3raw,cL,e7,go_sem,reduceDiv,reduceMod,↓reduceIte,reduceSub,reduceAdd,reduceLeDiff,reduceCtorEq,Int.reduceNe]
               exact ⟨by (first | omega | (simp only [inI]; omega)),by (first | omega | (simp only [inI]; omega))⟩
              ·have cL:decide ((last:Int)=1)=false:=decide_eq_false (by omega)
               rw [if_neg hx1] at i3
               simp only [b_r3raw_1,c4,t_r3raw_0,cL,go_sem,reduceDiv,reduceMod,↓reduceIte]
               exact hR _ ⟨f,p3,o⟩ ⟨z2,by simp only; omega,i3⟩ (by simp only; omega) rfl
            ·have c2:decide (((j % 8:Nat):Int)=0)=false:=decide_eq_false (by omega)
             rcases bit_cases b j with ⟨y,hy,hbit,hlt⟩ | ⟨hbit,hge⟩
             ·simp only [b_r3raw_0,r3bitS,unB_Bs,Int.toNat_natCast,e8,c2,hbit,go_sem,reduceDiv,reduceMod,↓reduceIte,Nat.reduceBEq,reduceSub,Nat.reduceLT,reduceAdd,reduceLeDiff,reduceCtorEq,Int.reduceNe]
              exact ⟨⟨h1,by omega⟩,hR2 _ (j+1) ⟨by omega,by omega⟩ (by omega) rfl⟩
             ·omega
           ·cases hbl
        ·rename_i k0
         have c0:decide ((ty:Int)=0)=false:=decide_eq_false (by omega)
         split at hbl
         ·rename_i k1
          have c1:decide ((ty:Int)=1)=true:=decide_eq_true (by omega)
          have u1:unN3 (fixL.map iV)=fixL:=unN3_iV fixL
          have u2:unN3 (fixD.map iV)=fixD:=unN3_iV fixD
          simp only [b_r3raw_2,r3bitS,r3numS,r3fixF,r3codesF,r3signsS,lsT_codes,u1,u2,unB_Bs,Bs_len,Int.toNat_natCast,Int.reduceToNat,hb1,hn,hbl,c0,c1,ev,go_sem,reduceDiv,reduceMod,↓reduceIte,reduceEqDiff,Nat.reduceBEq,reduceSub,Nat.reduceLT,reduceAdd,reduceLeDiff,reduceCtorEq,Int.reduceLT,Int.reduceLE,Int.reduceToNat]
          refine ⟨⟨h1,by omega⟩,⟨h1,by omega⟩,⟨by unfold roomL; rw [fix_room]; omega,fixL_15,by rw [fix_len]; omega⟩,⟨by unfold roomL; rw [fixD_room]; omega,fixD_15,by rw [fixD_len]; omega⟩,⟨h1,by omega,by omega,⟨by rw [unB_Bs],rfl,by omega,by omega⟩,⟨by rw [lsT_codes],by rw [lsT_codes]; exact fix_room,by rw [codesV_len,fix_len]; omega⟩,⟨by rw [lsT_codes],by rw [lsT_codes]; exact fixD_room,by rw [codesV_len,fixD_len]; omega⟩⟩,?_⟩
          by_cases hx1:last=1
          ·have cL:decide ((last:Int)=1)=true:=decide_eq_true (by omega)
           rw [if_pos hx1] at i3
           injection i3 with i3; injection i3 with e1 e2
           subst e1 e2
           have e7:((p3:Int)+7).tdiv 8=(((p3+7) / 8:Nat):Int):=rfl
           simp only [t_r3raw_0,t_r3raw_1,r_r3raw,cL,e7,go_sem,reduceDiv,reduceMod,↓reduceIte,reduceSub,reduceAdd,reduceLeDiff,reduceCtorEq,Int.reduceNe]
           exact ⟨by (first | omega | (simp only [inI]; omega)),by (first | omega | (simp only [inI]; omega))⟩
          ·have cL:decide ((last:Int)=1)=false:=decide_eq_false (by omega)
           rw [if_neg hx1] at i3
           simp only [t_r3raw_0,cL,go_sem,reduceDiv,reduceMod,↓reduceIte]
           exact hR _ ⟨f,p3,o⟩ ⟨z2,by simp only; omega,i3⟩ (by simp only; omega) rfl
         ·split at hbl
          ·cases hbl
          ·cases hbl
  ·cases hs
 ·cases hs
def r3rawS:Spec:=fun xs hp=>match xs,hp with
 | [.sl k ps,.int .i64 m],[]=>match rawE tdNo (unB ps) m.toNat with
  | .ok (o,n)=>some ⟨.tup [.sl 1 (Bs o),.int .i64 (n:Int),.int .i64 0],[],inpOk k ps∧0≤m∧m≤100000000⟩
  | .error _=>none
 | _,_=>none
theorem r3raw_ok:FnOk Tryz.prog 11 r3rawS:=r3raw0_ok.freezeD fun xs hp r' hs hp' => by
 unfold r3rawS at hs
 split at hs
 ·rename_i k ps m
  split at hs
  ·rename_i o n hr
   injection hs with hs; subst hs
   exact ⟨rfl,⟨.tup [.own 0 o.length,.int .i64 (n:Int),.int .i64 0],[.row 5 1 o.length (Bs o)],inpOk k ps∧0≤m∧m≤100000000⟩,by unfold r3raw0S; simp only [hr],hp',rfl,by simp [fzV,fzD],rfl,rfl⟩
  ·cases hs
 ·cases hs
end Go.Proofs.YtakolikdebfkeaaGreatDoor
set_option maxRecDepth 100000
namespace Go.Proofs.YtakolikdebfkeaaGreatDoor
open Go.RowKit
def c_zfour:ACode:=(.seq (.reg none [oS 2 (.new 97 [(4,(.blob [(.int .u8 0),(.int .u8 0),(.int .u8 0),(.int .u8 0)]))])]) (.seq (.reg none [oS 3 (.mv (.t 0)),oS 4 (.bin .shr (.t 3) (.c (.int .u64 24))),oS 5 (.toInt .u8 (.t 4)),oS 6 (.mv (.t 0)),oS 7 (.bin .shr (.t 6) (.c (.int .u64 16))),oS 8 (.toInt .u8 (.t 7)),oS 9 (.mv (.t 0)),oS 10 (.bin .shr (.t 9) (.c (.int .u64 8))),oS 11 (.toInt .u8 (.t 10)),oS 12 (.mv (.t 0)),oS 13 (.toInt .u8 (.t 12)),oS 14 (.buildA [(.int .u8 0),(.int .u8 0),(.int .u8 0),(.int .u8 0)] [(0,(.t 5)),(1,(.t 8)),(2,(.t 11)),(3,(.t 13))]),oN (.st (.arr 4) (.t 2) (.t 14))]) .ret))
def r_zfour:List ARes:=[(.c 2 (.arr 4))]
theorem s_zfour:slimF Tryz.prog Tryz.f56=some (c_zfour,r_zfour):=by kernel_rfl
def c_zopen:ACode:=(.seq (.reg none [oS 4 (.mv (.c (.con (.slice none 0 0)))),oS 5 (.mv (.c (.int .i64 0))),oS 6 (.mv (.c (.int .i64 0)))]) (.seq (.seq (.reg none [oS 11 (.mv (.t 0)),oS 12 (.len none false (.t 11)),oS 13 (.bin .lss (.t 12) (.c (.int .i64 2)))]) (.cond (.t 13) (.seq (.reg none [oS 4 (.mv (.c (.con (.slice none 0 0)))),oS 5 (.mv (.c (.int .i64 0))),oS 6 (.mv (.c (.int .i64 3)))]) .ret) .skip)) (.seq (.seq (.reg (some [(0,true),(1,true),(2,true),(3,true),(4,true),(5,true),(6,true),(7,true),(8,true),(9,true),(10,true),(11,true),(12,true),(13,true),(14,true),(15,true),(16,true),(17,true),(18,true),(19,true),(20,false),(21,false),(22,false),(23,false),(24,false),(25,false),(26,false),(27,false),(28,false),(29,true),(30,true),(31,true),(32,true)]) [oS 14 (.mv (.t 0)),oS 15 (.ia 1 (.int .u8 0) (.t 14) (.c (.int .i64 0))),oS 16 (.ld (.one (.int .u8 0)) (.t 15)),oS 17 (.bin .and (.t 16) (.c (.int .u8 15))),oS 18 (.bin .neq (.t 17) (.c (.int .u8 8))),oS 19 (.mv (.t 18)),oH 20 (.mv (.t 0)) 19,oH 21 (.ia 1 (.int .u8 0) (.t 20) (.c (.int .i64 0))) 19,oH 22 (.ld (.one (.int .u8 0)) (.t 21)) 19,oH 23 (.bin .shr (.t 22) (.c (.int .u64 4))) 19,oH 24 (.bin .gtr (.t 23) (.c (.int .u8 7))) 19,oS 25 (.pick (.t 19) (.c (.bool true)) (.t 24)),oS 26 (.mv (.t 25)),oH 27 (.mv (.t 0)) 26,oH 28 (.ia 1 (.int .u8 0) (.t 27) (.c (.int .i64 1))) 26,oH 29 (.ld (.one (.int .u8 0)) (.t 28)) 26,oH 30 (.bin .and (.t 29) (.c (.int .u8 32))) 26,oH 31 (.bin .neq (.t 30) (.c (.int .u8 0))) 26,oS 32 (.pick (.t 26) (.c (.bool true)) (.t 31)),oS 33 (.mv (.t 32)),oH 34 (.mv (.t 0)) 33,oH 35 (.ia 1 (.int .u8 0) (.t 34) (.c (.int .i64 0))) 33,oH 36 (.ld (.one (.int .u8 0)) (.t 35)) 33,oH 37 (.toInt .i64 (.t 36)) 33,oH 38 (.bin .shl (.t 37) (.c (.int .u64 8))) 33,oH 39 (.mv (.t 0)) 33,oH 40 (.ia 1 (.int .u8 0) (.t 39) (.c (.int .i64 1))) 33,oH 41 (.ld (.one (.int .u8 0)) (.t 40)) 33,oH 42 (.toInt .i64 (.t 41)) 33,oH 43 (.bin .or (.t 38) (.t 42)) 33,oH 44 (.bin .rem (.t 43) (.c (.int .i64 31))) 33,oH 45 (.bin .neq (.t 44) (.c (.int .i64 0))) 33,oS 46 (.pick (.t 33) (.c (.bool true)) (.t 45))]) (.cond (.t 46) (.seq (.reg none [oS 4 (.mv (.c (.con (.slice none 0 0)))),oS 5 (.mv (.c (.int .i64 0))),oS 6 (.mv (.c (.int .i64 4)))]) .ret) .skip)) (.seq (.reg none [oS 48 (.mv (.t 0)),oS 49 (.sl 1 (.t 48) (some (.c (.int .i64 2))) none),oS 50 (.mv (.t 1)),oS 51 (.call 90 [(.t 49),(.t 50)]),oS 47 (.mv (.t 51)),oS 52 (.ext (.t 47) 0),oS 53 (.ext (.t 47) 1),oS 54 (.ext (.t 47) 2),oS 7 (.mv (.t 52)),oS 8 (.mv (.t 53)),oS 9 (.mv (.t 54))]) (.seq (.seq (.reg none [oS 55 (.mv (.t 9)),oS 56 (.bin .neq (.t 55) (.c (.int .i64 0)))]) (.cond (.t 56) (.seq (.reg none [oS 57 (.mv (.t 9)),oS 4 (.mv (.c (.con (.slice none 0 0)))),oS 5 (.mv (.c (.int .i64 0))),oS 6 (.mv (.t 57))]) .ret) .skip)) (.seq (.reg none [oS 58 (.mv (.t 0)),oS 59 (.mv (.t 8)),oS 60 (.bin .add (.c (.int .i64 2)) (.t 59)),oS 61 (.sl 1 (.t 58) (some (.t 60)) none),oS 10 (.mv (.t 61))]) (.seq (.seq (.reg none [oS 62 (.mv (.t 10)),oS 63 (.len none false (.t 62)),oS 64 (.bin .lss (.t 63) (.c (.int .i64 4)))]) (.cond (.t 64) (.seq (.reg none [oS 4 (.mv (.c (.con (.slice none 0 0)))),oS 5 (.mv (.c (.int .i64 0))),oS 6 (.mv (.c (.int .i64 3)))]) .ret) .skip)) (.seq (.seq (.reg (some [(0,false),(1,false),(2,false),(1,false),(1,false),(1,false),(6,true)]) [oS 65 (.mv (.t 7)),oS 66 (.call 57 [(.t 65)]),oS 67 (.call 56 [(.t 66)]),oS 68 (.mv (.t 10)),oS 69 (.s2a 4 (.t 68)),oS 70 (.ld (.arr 4) (.t 69)),oS 71 (.eqA true 4 (.t 67) (.t 70))]) (.cond (.t 71) (.seq (.reg none [oS 4 (.mv (.c (.con (.slice none 0 0)))),oS 5 (.mv (.c (.int .i64 0))),oS 6 (.mv (.c (.int .i64 5)))]) .ret) .skip)) (.seq (.reg none [oS 72 (.mv (.t 7)),oS 73 (.mv (.t 8)),oS 74 (.bin .add (.t 73) (.c (.int .i64 6))),oS 4 (.mv (.t 72)),oS 5 (.mv (.t 74)),oS 6 (.mv (.c (.int .i64 0)))]) .ret)))))))))
def r_zopen:List ARes:=[(.t 4),(.t 5),(.t 6)]
theorem s_zopen:slimF Tryz.prog Tryz.f44=some (c_zopen,r_zopen):=by kernel_rfl
def c_zwrap:ACode:=(.seq (.reg none [oS 2 (.mv (.c (.con (.slice none 0 0))))]) (.seq (.reg none [oS 5 (.mv (.t 0)),oS 6 (.call 57 [(.t 5)]),oS 7 (.call 56 [(.t 6)]),oS 3 (.new 97 [(4,(.blob [(.int .u8 0),(.int .u8 0),(.int .u8 0),(.int .u8 0)]))]),oN (.st (.arr 4) (.t 3) (.t 7))]) (.seq (.reg none [oS 8 (.buildSl 5 1 [(.c (.int .u8 120)),(.c (.int .u8 156))]),oS 9 (.mv (.t 0)),oS 10 (.call 58 [(.t 9)]),oS 11 (.app 5 1 1 (.t 8) (.t 10)),oS 4 (.mv (.t 11))]) (.seq (.reg none [oS 12 (.mv (.t 4)),oS 13 (.slA 4 (.t 3) none none),oS 14 (.app 5 1 1 (.t 12) (.t 13)),oS 2 (.mv (.t 14))]) .ret))))
def r_zwrap:List ARes:=[(.t 2)]
theorem s_zwrap:slimF Tryz.prog Tryz.f21=some (c_zwrap,r_zwrap):=by kernel_rfl
def c_adler:ACode:=(.seq (.reg none [oS 2 (.mv (.c (.int .u32 0)))]) (.seq (.reg none [oS 3 (.mv (.t 0)),oS 4 (.call 99 [(.c (.int .u32 1)),(.t 3)]),oS 2 (.mv (.t 4))]) .ret))
def r_adler:List ARes:=[(.t 2)]
theorem s_adler:slimF Tryz.prog Tryz.f57=some (c_adler,r_adler):=by kernel_rfl
def b_adlm_0:ACode:=(.seq (.reg none [oS 16 (.bin .lss (.t 15) (.t 14))]) (.seq (.cond (.t 16) .skip (.exit 0)) (.seq (.block 1 (.seq (.reg none [oS 17 (.ia 1 (.int .u8 0) (.t 13) (.t 15)),oS 18 (.ld (.one (.int .u8 0)) (.t 17)),oS 8 (.mv (.t 18))]) (.seq (.reg none [oS 19 (.mv (.t 5)),oS 20 (.mv (.t 8)),oS 21 (.toInt .u32 (.t 20)),oS 22 (.bin .add (.t 19) (.t 21)),oS 23 (.bin .rem (.t 22) (.c (.int .u32 65521))),oS 5 (.mv (.t 23))]) (.reg none [oS 24 (.mv (.t 6)),oS 25 (.mv (.t 5)),oS 26 (.bin .add (.t 24) (.t 25)),oS 27 (.bin .rem (.t 26) (.c (.int .u32 65521))),oS 6 (.mv (.t 27))])))) (.reg none [oS 28 (.bin .add (.t 15) (.c (.int .i64 1))),oS 15 (.mv (.t 28))]))))
def t_adlm_0:ACode:=(.seq (.reg none [oS 29 (.mv (.t 6)),oS 30 (.bin .shl (.t 29) (.c (.int .u64 16))),oS 31 (.mv (.t 5)),oS 32 (.bin .or (.t 30) (.t 31)),oS 4 (.mv (.t 32))]) .ret)
def c_adlm:ACode:=(.seq (.reg none [oS 4 (.mv (.c (.int .u32 0)))]) (.seq (.reg none [oS 9 (.mv (.t 0)),oS 10 (.bin .and (.t 9) (.c (.int .u32 65535))),oS 11 (.mv (.t 0)),oS 12 (.bin .shr (.t 11) (.c (.int .u64 16))),oS 5 (.mv (.t 10)),oS 6 (.mv (.t 12))]) (.seq (.seq (.reg none [oS 13 (.mv (.t 1)),oS 14 (.len none false (.t 13)),oS 15 (.mv (.c (.int .i64 0)))]) (.block 0 (.loop b_adlm_0))) t_adlm_0)))
def r_adlm:List ARes:=[(.t 4)]
theorem s_adlm:slimF Tryz.prog Tryz.f99=some (c_adlm,r_adlm):=by kernel_rfl
def c_bcut:ACode:=(.seq (.reg none [oS 4 (.mv (.c (.con (.slice none 0 0)))),oS 5 (.mv (.c (.con (.slice none 0 0)))),oS 6 (.mv (.c (.bool false)))]) (.seq (.seq (.reg none [oS 8 (.mv (.t 0)),oS 9 (.mv (.t 1)),oS 10 (.call 91 [(.t 8),(.t 9)]),oS 7 (.mv (.t 10))]) (.seq (.reg none [oS 11 (.mv (.t 7)),oS 12 (.bin .geq (.t 11) (.c (.int .i64 0)))]) (.cond (.t 12) (.seq (.reg (some [(0,false),(1,false),(2,false),(3,false),(4,false),(5,false),(6,false),(7,false),(8,false),(9,false),(10,true),(11,true)]) [oS 13 (.mv (.t 0)),oS 14 (.mv (.t 7)),oS 15 (.sl 1 (.t 13) none (some (.t 14))),oS 16 (.mv (.t 0)),oS 17 (.mv (.t 7)),oS 18 (.mv (.t 1)),oS 19 (.len none false (.t 18)),oS 20 (.bin .add (.t 17) (.t 19)),oS 21 (.sl 1 (.t 16) (some (.t 20)) none),oS 4 (.mv (.t 15)),oS 5 (.mv (.t 21)),oS 6 (.mv (.c (.bool true)))]) .ret) .skip))) (.seq (.reg none [oS 22 (.mv (.t 0)),oS 4 (.mv (.t 22)),oS 5 (.mv (.c (.con (.slice none 0 0)))),oS 6 (.mv (.c (.bool false)))]) .ret)))
def r_bcut:List ARes:=[(.t 4),(.t 5),(.t 6)]
theorem s_bcut:slimF Tryz.prog Tryz.f45=some (c_bcut,r_bcut):=by kernel_rfl
def c_oopen:ACode:=(.seq (.reg none [oS 2 (.mv (.c (.int .i64 0))),oS 3 (.mv (.c (.con (.slice none 0 0)))),oS 4 (.mv (.c (.int .i64 0)))]) (.seq (.reg none [oS 18 (.mv (.t 0)),oS 19 (.call 44 [(.t 18),(.c (.int .i64 16777236))]),oS 17 (.mv (.t 19)),oS 20 (.ext (.t 17) 0),oS 21 (.ext (.t 17) 1),oS 22 (.ext (.t 17) 2),oS 5 (.mv (.t 20)),oS 6 (.mv (.t 21)),oS 7 (.mv (.t 22))]) (.seq (.seq (.reg none [oS 23 (.mv (.t 7)),oS 24 (.bin .neq (.t 23) (.c (.int .i64 0)))]) (.cond (.t 24) (.seq (.reg none [oS 25 (.mv (.t 7)),oS 2 (.mv (.c (.int .i64 0))),oS 3 (.mv (.c (.con (.slice none 0 0)))),oS 4 (.mv (.t 25))]) .ret) .skip)) (.seq (.reg none [oS 27 (.mv (.t 5)),oS 28 (.buildSl 5 1 [(.c (.int .u8 0))]),oS 29 (.call 45 [(.t 27),(.t 28)]),oS 26 (.mv (.t 29)),oS 30 (.ext (.t 26) 0),oS 31 (.ext (.t 26) 1),oS 32 (.ext (.t 26) 2),oS 8 (.mv (.t 30)),oS 9 (.mv (.t 31)),oS 10 (.mv (.t 32))]) (.seq (.reg none [oS 34 (.mv (.t 8)),oS 35 (.buildSl 5 1 [(.c (.int .u8 32))]),oS 36 (.mark (.t 35)),oS 37 (.call 45 [(.t 34),(.t 36)]),oS 33 (.mv (.t 37)),oS 38 (.ext (.t 33) 0),oS 39 (.ext (.t 33) 1),oS 40 (.ext (.t 33) 2),oS 11 (.mv (.t 38)),oS 12 (.mv (.t 39)),oS 13 (.mv (.t 40))]) (.seq (.reg none [oS 42 (.mv (.t 12)),oS 43 (.toStr (.t 42)),oS 44 (.call 46 [(.t 43)]),oS 41 (.mv (.t 44)),oS 45 (.ext (.t 41) 0),oS 46 (.ext (.t 41) 1),oS 14 (.mv (.t 45)),oS 15 (.mv (.t 46))]) (.seq (.reg none [oS 47 (.mv (.t 11)),oS 48 (.toStr (.t 47)),oS 49 (.call 47 [(.t 48)]),oS 16 (.mv (.t 49))]) (.seq (.block 0 (.seq (.reg none [oS 51 (.mv (.t 6)),oS 52 (.mv (.t 0)),oS 53 (.len none false (.t 52)),oS 54 (.bin .lss (.t 51) (.t 53)),oS 55 (.mv (.t 54)),oH 56 (.mv (.t 10)) 55,oH 57 (.un .not (.t 56)) 55,oS 58 (.pick (.t 55) (.c (.bool true)) (.t 57)),oS 59 (.mv (.t 58)),oH 60 (.mv (.t 13)) 59,oH 61 (.un .not (.t 60)) 59,oS 62 (.pick (.t 59) (.c (.bool true)) (.t 61)),oS 63 (.mv (.t 62)),oH 64 (.mv (.t 16)) 63,oH 65 (.bin .eql (.t 64) (.c (.int .i64 0))) 63,oS 66 (.pick (.t 63) (.c (.bool true)) (.t 65)),oS 67 (.mv (.t 66)),oH 68 (.mv (.t 15)) 67,oH 69 (.bin .neq (.t 68) (.c (.int .i64 0))) 67,oS 70 (.pick (.t 67) (.c (.bool true)) (.t 69)),oS 71 (.mv (.t 70)),oH 72 (.mv (.t 14)) 71,oH 73 (.mv (.t 9)) 71,oH 74 (.len none false (.t 73)) 71,oH 75 (.bin .neq (.t 72) (.t 74)) 71,oS 76 (.pick (.t 71) (.c (.bool true)) (.t 75)),oS 50 (.mv (.t 76))]) (.cond (.t 50) (.seq (.reg none [oS 2 (.mv (.c (.int .i64 0))),oS 3 (.mv (.c (.con (.slice none 0 0)))),oS 4 (.mv (.c (.int .i64 4)))]) .ret) (.seq (.reg none [oS 78 (.mv (.t 9)),oS 79 (.len none false (.t 78)),oS 80 (.bin .gtr (.t 79) (.c (.int .i64 16777216))),oS 77 (.mv (.t 80))]) (.cond (.t 77) (.seq (.reg none [oS 2 (.mv (.c (.int .i64 0))),oS 3 (.mv (.c (.con (.slice none 0 0)))),oS 4 (.mv (.c (.int .i64 2)))]) .ret) .skip))))) (.seq (.reg none [oS 81 (.mv (.t 16)),oS 82 (.mv (.t 9)),oS 2 (.mv (.t 81)),oS 3 (.mv (.t 82)),oS 4 (.mv (.c (.int .i64 0)))]) .ret)))))))))
def r_oopen:List ARes:=[(.t 2),(.t 3),(.t 4)]
theorem s_oopen:slimF Tryz.prog Tryz.f13=some (c_oopen,r_oopen):=by kernel_rfl
end Go.Proofs.YtakolikdebfkeaaGreatDoor
namespace Go.Proofs.YtakolikdebfkeaaGreatDoor
end Go.Proofs.YtakolikdebfkeaaGreatDoor
namespace Go.Proofs.YtakolikdebfkeaaGreatDoor
variable {td : List Bool → Nat → RdE (List Nat × List Nat)}
def adlX:List UInt8→Nat→Nat→Nat × Nat
 | [],x,y=>(x,y)
 | c :: r,x,y=>adlX r ((x+c.toNat) % 65521) ((y+(x+c.toNat) % 65521) % 65521)
theorem adlX_lt:∀ (b:List UInt8) (x y:Nat),x<65521→y<65521→(adlX b x y).1<65521∧(adlX b x y).2<65521
 | [],_,_,h1,h2=>⟨h1,h2⟩
 | c :: r,x,y,_,_=>adlX_lt r _ _ (Nat.mod_lt _ (by omega)) (Nat.mod_lt _ (by omega))
def adlN (b:List UInt8):Nat:=(adlX b 1 0).2 * 65536+(adlX b 1 0).1
theorem adlN_lt (b:List UInt8):adlN b<4294967296:=by
 have:=adlX_lt b 1 0 (by omega) (by omega)
 unfold adlN; omega
def tail4 (n:Nat):List UInt8:=[UInt8.ofNat (n / 16777216),UInt8.ofNat (n / 65536 % 256),UInt8.ofNat (n / 256 % 256),UInt8.ofNat (n % 256)]
def zwrap (b:List UInt8):List UInt8:=[120,156] ++ dflL b ++ tail4 (adlN b)
theorem zwrap_len (b:List UInt8):(zwrap b).length=(dflL b).length+6:=by
 unfold zwrap; rw [List.length_append,List.length_append]; simp [tail4]; omega
def headBad (x y:Nat):Bool:=decide (¬ x % 16=8) || decide (7<x / 16) || decide (y / 32 % 2=1) || decide (¬ (x * 256+y) % 31=0)
theorem head_ok (r:List UInt8):headBad ((120 :: 156 :: r:List UInt8).getD 0 0).toNat ((120 :: 156 :: r:List UInt8).getD 1 0).toNat=false:=show headBad 120 156=false by decide
def zopenE (td:List Bool→Nat→RdE (List Nat × List Nat)) (b:List UInt8) (most:Nat):RdE (List UInt8) :=
 if b.length<2 then .error 3
 else if headBad (b.getD 0 0).toNat (b.getD 1 0).toNat=true then .error 4
 else match rawE td (b.drop 2) most with
  | .error e=>.error e
  | .ok (x,n)=>if (b.drop (2+n)).length<4 then .error 3 else if tail4 (adlN x)=(b.drop (2+n)).take 4 then .ok (x,n+6) else .error 5
theorem zopen_wrap (b more:List UInt8) {most:Nat} (h:b.length≤most):zopenE td (zwrap b ++ more) most=.ok (b,(zwrap b).length):=by
 have e1:zwrap b ++ more=120 :: 156 :: (dflL b ++ (tail4 (adlN b) ++ more)):=by unfold zwrap; simp [List.append_assoc]
 have e2:(120 :: 156 :: (dflL b ++ (tail4 (adlN b) ++ more)):List UInt8).drop (2+(dflL b).length)=tail4 (adlN b) ++ more:=by
  rw [Nat.add_comm]
  show (dflL b ++ (tail4 (adlN b) ++ more)).drop (dflL b).length=_
  rw [List.drop_append_of_le_length (Nat.le_refl _),List.drop_length,List.nil_append]
 rw [e1,zopenE,if_neg (by simp),if_neg (Bool.eq_false_iff.1 (head_ok _))]
 have:=dflL_raw (td:=td) b (tail4 (adlN b) ++ more) h
 rw [show (120 :: 156 :: (dflL b ++ (tail4 (adlN b) ++ more)):List UInt8).drop 2=dflL b ++ (tail4 (adlN b) ++ more) from rfl,this]
 simp only
 rw [e2,if_neg (by simp [tail4]),if_pos (by simp [tail4]),zwrap_len]
end Go.Proofs.YtakolikdebfkeaaGreatDoor
namespace Go.Proofs.YtakolikdebfkeaaGreatDoor
open Go.RowKit
def b_dstor_0:ACode:=(.block 1 (.seq (.reg none [oS 6 (.mv (.t 0)),oS 7 (.len none false (.t 6)),oS 8 (.mm false (.t 7) (.c (.int .i64 65535))),oS 4 (.mv (.t 8))]) (.seq (.reg none [oS 5 (.mv (.c (.int .u8 0)))]) (.seq (.seq (.reg none [oS 9 (.mv (.t 4)),oS 10 (.mv (.t 0)),oS 11 (.len none false (.t 10)),oS 12 (.bin .eql (.t 9) (.t 11))]) (.cond (.t 12) (.reg none [oS 5 (.mv (.c (.int .u8 1)))]) .skip)) (.seq (.reg none [oS 13 (.mv (.t 3)),oS 14 (.mv (.t 5)),oS 15 (.mv (.t 4)),oS 16 (.toInt .u8 (.t 15)),oS 17 (.mv (.t 4)),oS 18 (.bin .shr (.t 17) (.c (.int .u64 8))),oS 19 (.toInt .u8 (.t 18)),oS 20 (.mv (.t 4)),oS 21 (.toInt .u8 (.t 20)),oS 22 (.un .xor (.t 21)),oS 23 (.mv (.t 4)),oS 24 (.bin .shr (.t 23) (.c (.int .u64 8))),oS 25 (.toInt .u8 (.t 24)),oS 26 (.un .xor (.t 25)),oS 27 (.buildSl 5 1 [(.t 14),(.t 16),(.t 19),(.t 22),(.t 26)]),oS 28 (.app 5 1 1 (.t 13) (.t 27)),oS 3 (.mv (.t 28))]) (.seq (.reg none [oS 29 (.mv (.t 3)),oS 30 (.mv (.t 0)),oS 31 (.mv (.t 4)),oS 32 (.sl 1 (.t 30) none (some (.t 31))),oS 33 (.app 5 1 1 (.t 29) (.t 32)),oS 3 (.mv (.t 33))]) (.seq (.reg none [oS 34 (.mv (.t 0)),oS 35 (.mv (.t 4)),oS 36 (.sl 1 (.t 34) (some (.t 35)) none),oS 0 (.mv (.t 36))]) (.seq (.reg none [oS 37 (.mv (.t 5)),oS 38 (.bin .eql (.t 37) (.c (.int .u8 1)))]) (.cond (.t 38) (.seq (.reg none [oS 39 (.mv (.t 3)),oS 2 (.mv (.t 39))]) .ret) .skip)))))))))
def c_dstor:ACode:=(.seq (.reg none [oS 2 (.mv (.c (.con (.slice none 0 0))))]) (.seq (.reg none [oS 3 (.mv (.c (.con (.slice none 0 0))))]) (.block 0 (.loop b_dstor_0))))
def r_dstor:List ARes:=[(.t 2)]
theorem s_dstor:slimF Tryz.prog Tryz.f101=some (c_dstor,r_dstor):=by kernel_rfl
def c_dput:ACode:=(.seq (.seq (.reg none [oS 4 (.mv (.t 0)),oS 5 (.nck (.t 4)),oS 6 (.fa 1 (.t 5)),oS 7 (.ld (.one (.int .i64 0)) (.t 6)),oS 8 (.bin .rem (.t 7) (.c (.int .i64 8))),oS 9 (.bin .eql (.t 8) (.c (.int .i64 0)))]) (.cond (.t 9) (.reg none [oS 10 (.mv (.t 0)),oS 11 (.mv (.t 0)),oS 12 (.nck (.t 11)),oS 13 (.fa 0 (.t 12)),oS 14 (.ld (.one (.con (.slice none 0 0))) (.t 13)),oS 15 (.buildSl 5 1 [(.c (.int .u8 0))]),oS 16 (.app 5 1 1 (.t 14) (.t 15)),oS 17 (.nck (.t 10)),oS 18 (.fa 0 (.t 17)),oN (.st (.one (.con (.slice none 0 0))) (.t 18) (.t 16))]) .skip)) (.seq (.reg (some [(0,false),(1,false),(2,false),(3,false),(4,false),(5,false),(6,false),(7,false),(8,false),(9,false),(10,false),(11,false),(12,false),(13,false),(14,false),(15,false),(16,false),(17,false),(18,false),(19,true),(20,true),(21,true)]) [oS 19 (.mv (.t 0)),oS 20 (.nck (.t 19)),oS 21 (.fa 0 (.t 20)),oS 22 (.ld (.one (.con (.slice none 0 0))) (.t 21)),oS 23 (.mv (.t 0)),oS 24 (.nck (.t 23)),oS 25 (.fa 1 (.t 24)),oS 26 (.ld (.one (.int .i64 0)) (.t 25)),oS 27 (.bin .quo (.t 26) (.c (.int .i64 8))),oS 28 (.ia 1 (.int .u8 0) (.t 22) (.t 27)),oS 29 (.ld (.one (.int .u8 0)) (.t 28)),oS 30 (.mv (.t 1)),oS 31 (.mv (.t 0)),oS 32 (.nck (.t 31)),oS 33 (.fa 1 (.t 32)),oS 34 (.ld (.one (.int .i64 0)) (.t 33)),oS 35 (.bin .rem (.t 34) (.c (.int .i64 8))),oS 36 (.bin .shl (.t 30) (.t 35)),oS 37 (.toInt .u8 (.t 36)),oS 38 (.bin .or (.t 29) (.t 37)),oS 39 (.ia 1 (.int .u8 0) (.t 22) (.t 27)),oN (.st (.one (.int .u8 0)) (.t 39) (.t 38))]) (.reg none [oS 40 (.mv (.t 0)),oS 41 (.nck (.t 40)),oS 42 (.fa 1 (.t 41)),oS 43 (.ld (.one (.int .i64 0)) (.t 42)),oS 44 (.bin .add (.t 43) (.c (.int .i64 1))),oS 45 (.nck (.t 40)),oS 46 (.fa 1 (.t 45)),oN (.st (.one (.int .i64 0)) (.t 46) (.t 44))])))
def r_dput:List ARes:=[]
theorem s_dput:slimF Tryz.prog Tryz.f167=some (c_dput,r_dput):=by kernel_rfl
def b_dnum_0:ACode:=(.seq (.reg none [oS 9 (.bin .lss (.t 8) (.t 7))]) (.seq (.cond (.t 9) .skip (.exit 0)) (.seq (.block 1 (.seq (.reg none [oS 10 (.mv (.t 8)),oS 6 (.mv (.t 10))]) (.reg none [oS 11 (.mv (.t 0)),oS 12 (.mv (.t 1)),oS 13 (.mv (.t 6)),oS 14 (.bin .shr (.t 12) (.t 13)),oS 15 (.bin .and (.t 14) (.c (.int .i64 1))),oS 16 (.call 167 [(.t 11),(.t 15)])]))) (.reg none [oS 17 (.bin .add (.t 8) (.c (.int .i64 1))),oS 8 (.mv (.t 17))]))))
def c_dnum:ACode:=(.seq (.reg none [oS 7 (.mv (.t 2)),oS 8 (.mv (.c (.int .i64 0)))]) (.block 0 (.loop b_dnum_0)))
def r_dnum:List ARes:=[]
theorem s_dnum:slimF Tryz.prog Tryz.f139=some (c_dnum,r_dnum):=by kernel_rfl
def b_dcode_0:ACode:=(.seq (.seq (.reg none [oS 9 (.mv (.t 6)),oS 10 (.bin .geq (.t 9) (.c (.int .i64 0)))]) (.cond (.t 10) .skip (.exit 0))) (.seq (.block 1 (.reg none [oS 13 (.mv (.t 0)),oS 14 (.mv (.t 1)),oS 15 (.mv (.t 6)),oS 16 (.bin .shr (.t 14) (.t 15)),oS 17 (.bin .and (.t 16) (.c (.int .i64 1))),oS 18 (.call 167 [(.t 13),(.t 17)])])) (.reg none [oS 11 (.mv (.t 6)),oS 12 (.bin .sub (.t 11) (.c (.int .i64 1))),oS 6 (.mv (.t 12))])))
def c_dcode:ACode:=(.seq (.reg none [oS 7 (.mv (.t 2)),oS 8 (.bin .sub (.t 7) (.c (.int .i64 1))),oS 6 (.mv (.t 8))]) (.block 0 (.loop b_dcode_0)))
def r_dcode:List ARes:=[]
theorem s_dcode:slimF Tryz.prog Tryz.f168=some (c_dcode,r_dcode):=by kernel_rfl
def c_dsign:ACode:=(.block 0 (.seq (.reg none [oS 10 (.mv (.t 1)),oS 11 (.bin .lss (.t 10) (.c (.int .i64 144))),oS 9 (.mv (.t 11))]) (.cond (.t 9) (.reg none [oS 12 (.mv (.t 0)),oS 13 (.mv (.t 1)),oS 14 (.bin .add (.c (.int .i64 48)) (.t 13)),oS 15 (.call 168 [(.t 12),(.t 14),(.c (.int .i64 8))])]) (.seq (.reg none [oS 17 (.mv (.t 1)),oS 18 (.bin .lss (.t 17) (.c (.int .i64 256))),oS 16 (.mv (.t 18))]) (.cond (.t 16) (.reg none [oS 19 (.mv (.t 0)),oS 20 (.mv (.t 1)),oS 21 (.bin .add (.c (.int .i64 400)) (.t 20)),oS 22 (.bin .sub (.t 21) (.c (.int .i64 144))),oS 23 (.call 168 [(.t 19),(.t 22),(.c (.int .i64 9))])]) (.seq (.reg none [oS 25 (.mv (.t 1)),oS 26 (.bin .lss (.t 25) (.c (.int .i64 280))),oS 24 (.mv (.t 26))]) (.cond (.t 24) (.reg none [oS 27 (.mv (.t 0)),oS 28 (.mv (.t 1)),oS 29 (.bin .sub (.t 28) (.c (.int .i64 256))),oS 30 (.call 168 [(.t 27),(.t 29),(.c (.int .i64 7))])]) (.reg none [oS 4 (.mv (.t 0)),oS 5 (.mv (.t 1)),oS 6 (.bin .add (.c (.int .i64 192)) (.t 5)),oS 7 (.bin .sub (.t 6) (.c (.int .i64 280))),oS 8 (.call 168 [(.t 4),(.t 7),(.c (.int .i64 8))])]))))))))
def r_dsign:List ARes:=[]
theorem s_dsign:slimF Tryz.prog Tryz.f142=some (c_dsign,r_dsign):=by kernel_rfl
def b_dlen_0:ACode:=(.seq (.seq (.reg none [oS 12 (.mv (.t 4)),oS 13 (.mv (.t 5)),oS 14 (.bin .shr (.t 12) (.t 13)),oS 15 (.bin .geq (.t 14) (.c (.int .i64 8)))]) (.cond (.t 15) .skip (.exit 0))) (.block 1 (.reg none [oS 16 (.mv (.t 5)),oS 17 (.bin .add (.t 16) (.c (.int .i64 1))),oS 5 (.mv (.t 17))])))
def t_dlen_0:ACode:=(.seq (.seq (.reg none [oS 18 (.mv (.t 4)),oS 19 (.bin .lss (.t 18) (.c (.int .i64 8)))]) (.cond (.t 19) (.seq (.reg none [oS 20 (.mv (.t 0)),oS 21 (.mv (.t 4)),oS 22 (.bin .add (.c (.int .i64 257)) (.t 21)),oS 23 (.call 142 [(.t 20),(.t 22)])]) .ret) .skip)) (.seq (.reg none [oS 24 (.mv (.t 0)),oS 25 (.mv (.t 5)),oS 26 (.bin .add (.t 25) (.c (.int .i64 1))),oS 27 (.bin .mul (.c (.int .i64 4)) (.t 26)),oS 28 (.bin .add (.c (.int .i64 257)) (.t 27)),oS 29 (.mv (.t 4)),oS 30 (.mv (.t 5)),oS 31 (.bin .shr (.t 29) (.t 30)),oS 32 (.bin .and (.t 31) (.c (.int .i64 3))),oS 33 (.bin .add (.t 28) (.t 32)),oS 34 (.call 142 [(.t 24),(.t 33)])]) (.reg none [oS 35 (.mv (.t 0)),oS 36 (.mv (.t 4)),oS 37 (.mv (.t 5)),oS 38 (.bin .shl (.c (.int .i64 1)) (.t 37)),oS 39 (.bin .sub (.t 38) (.c (.int .i64 1))),oS 40 (.bin .and (.t 36) (.t 39)),oS 41 (.mv (.t 5)),oS 42 (.call 139 [(.t 35),(.t 40),(.t 41)])])))
def c_dlen:ACode:=(.seq (.seq (.reg none [oS 6 (.mv (.t 1)),oS 7 (.bin .eql (.t 6) (.c (.int .i64 258)))]) (.cond (.t 7) (.seq (.reg none [oS 8 (.mv (.t 0)),oS 9 (.call 142 [(.t 8),(.c (.int .i64 285))])]) .ret) .skip)) (.seq (.reg none [oS 10 (.mv (.t 1)),oS 11 (.bin .sub (.t 10) (.c (.int .i64 3))),oS 4 (.mv (.t 11))]) (.seq (.reg none [oS 5 (.mv (.c (.int .i64 0)))]) (.seq (.block 0 (.loop b_dlen_0)) t_dlen_0))))
def r_dlen:List ARes:=[]
theorem s_dlen:slimF Tryz.prog Tryz.f140=some (c_dlen,r_dlen):=by kernel_rfl
def b_ddist_0:ACode:=(.seq (.seq (.reg none [oS 13 (.mv (.t 4)),oS 14 (.mv (.t 5)),oS 15 (.bin .shr (.t 13) (.t 14)),oS 16 (.bin .geq (.t 15) (.c (.int .i64 4)))]) (.cond (.t 16) .skip (.exit 0))) (.block 1 (.reg none [oS 17 (.mv (.t 5)),oS 18 (.bin .add (.t 17) (.c (.int .i64 1))),oS 5 (.mv (.t 18))])))
def t_ddist_0:ACode:=(.seq (.reg none [oS 19 (.mv (.t 0)),oS 20 (.mv (.t 5)),oS 21 (.bin .add (.t 20) (.c (.int .i64 1))),oS 22 (.bin .mul (.c (.int .i64 2)) (.t 21)),oS 23 (.mv (.t 4)),oS 24 (.mv (.t 5)),oS 25 (.bin .shr (.t 23) (.t 24)),oS 26 (.bin .and (.t 25) (.c (.int .i64 1))),oS 27 (.bin .add (.t 22) (.t 26)),oS 28 (.call 168 [(.t 19),(.t 27),(.c (.int .i64 5))])]) (.reg none [oS 29 (.mv (.t 0)),oS 30 (.mv (.t 4)),oS 31 (.mv (.t 5)),oS 32 (.bin .shl (.c (.int .i64 1)) (.t 31)),oS 33 (.bin .sub (.t 32) (.c (.int .i64 1))),oS 34 (.bin .and (.t 30) (.t 33)),oS 35 (.mv (.t 5)),oS 36 (.call 139 [(.t 29),(.t 34),(.t 35)])]))
def c_ddist:ACode:=(.seq (.reg none [oS 6 (.mv (.t 1)),oS 7 (.bin .sub (.t 6) (.c (.int .i64 1))),oS 4 (.mv (.t 7))]) (.seq (.seq (.reg none [oS 8 (.mv (.t 4)),oS 9 (.bin .lss (.t 8) (.c (.int .i64 4)))]) (.cond (.t 9) (.seq (.reg none [oS 10 (.mv (.t 0)),oS 11 (.mv (.t 4)),oS 12 (.call 168 [(.t 10),(.t 11),(.c (.int .i64 5))])]) .ret) .skip)) (.seq (.reg none [oS 5 (.mv (.c (.int .i64 0)))]) (.seq (.block 0 (.loop b_ddist_0)) t_ddist_0))))
def r_ddist:List ARes:=[]
theorem s_ddist:slimF Tryz.prog Tryz.f141=some (c_ddist,r_ddist):=by kernel_rfl
def b_dfix_0:ACode:=(.seq (.seq (.reg (some [(0,true),(1,true),(2,true),(3,false),(4,false),(5,false),(6,false),(7,false),(8,true),(9,true),(10,true),(11,false),(12,false),(13,false),(14,false),(15,false),(16,false),(17,false),(18,false),(19,false),(20,false),(21,false),(22,false),(23,true),(24,true)]) [oS 45 (.mv (.t 6)),oS 46 (.bin .lss (.t 45) (.c (.int .i64 258))),oS 47 (.mv (.t 46)),oG 48 (.mv (.t 5)) 47,oG 49 (.mv (.t 6)) 47,oG 50 (.bin .add (.t 48) (.t 49)) 47,oG 51 (.mv (.t 0)) 47,oG 52 (.len none false (.t 51)) 47,oG 53 (.bin .lss (.t 50) (.t 52)) 47,oS 54 (.pick (.t 47) (.t 53) (.c (.bool false))),oS 55 (.mv (.t 54)),oG 56 (.mv (.t 0)) 55,oG 57 (.mv (.t 8)) 55,oG 58 (.mv (.t 6)) 55,oG 59 (.bin .add (.t 57) (.t 58)) 55,oG 60 (.ia 1 (.int .u8 0) (.t 56) (.t 59)) 55,oG 61 (.ld (.one (.int .u8 0)) (.t 60)) 55,oG 62 (.mv (.t 0)) 55,oG 63 (.mv (.t 5)) 55,oG 64 (.mv (.t 6)) 55,oG 65 (.bin .add (.t 63) (.t 64)) 55,oG 66 (.ia 1 (.int .u8 0) (.t 62) (.t 65)) 55,oG 67 (.ld (.one (.int .u8 0)) (.t 66)) 55,oG 68 (.bin .eql (.t 61) (.t 67)) 55,oS 69 (.pick (.t 55) (.t 68) (.c (.bool false)))]) (.cond (.t 69) .skip (.exit 2))) (.block 3 (.reg none [oS 70 (.mv (.t 6)),oS 71 (.bin .add (.t 70) (.c (.int .i64 1))),oS 6 (.mv (.t 71))])))
def b_dfix_1:ACode:=(.seq (.reg none [oS 90 (.bin .lss (.t 89) (.t 88))]) (.seq (.cond (.t 90) .skip (.exit 4)) (.seq (.block 5 (.seq (.seq (.reg none [oS 91 (.mv (.t 5)),oS 92 (.bin .add (.t 91) (.c (.int .i64 3))),oS 93 (.mv (.t 0)),oS 94 (.len none false (.t 93)),oS 95 (.bin .leq (.t 92) (.t 94))]) (.cond (.t 95) (.reg none [oS 96 (.mv (.t 4)),oS 97 (.mv (.t 0)),oS 98 (.mv (.t 5)),oS 99 (.sl 1 (.t 97) (some (.t 98)) none),oS 100 (.s2a 3 (.t 99)),oS 101 (.ld (.arr 3) (.t 100)),oS 102 (.mv (.t 5)),oN (.mput (.a 3) (.t 96) (.t 101) (.t 102))]) .skip)) (.reg none [oS 103 (.mv (.t 5)),oS 104 (.bin .add (.t 103) (.c (.int .i64 1))),oS 5 (.mv (.t 104))]))) (.reg none [oS 105 (.bin .add (.t 89) (.c (.int .i64 1))),oS 89 (.mv (.t 105))]))))
def t_dfix_0:ACode:=(.seq (.reg none [oS 10 (.mv (.c (.int .i64 1)))]) (.seq (.seq (.reg none [oS 72 (.mv (.t 6)),oS 73 (.bin .geq (.t 72) (.c (.int .i64 3)))]) (.cond (.t 73) (.seq (.reg none [oS 74 (.mv (.t 3)),oS 75 (.mv (.t 6)),oS 76 (.call 140 [(.t 74),(.t 75)])]) (.seq (.reg none [oS 77 (.mv (.t 3)),oS 78 (.mv (.t 7)),oS 79 (.call 141 [(.t 77),(.t 78)])]) (.reg none [oS 80 (.mv (.t 6)),oS 10 (.mv (.t 80))]))) (.reg none [oS 81 (.mv (.t 3)),oS 82 (.mv (.t 0)),oS 83 (.mv (.t 5)),oS 84 (.ia 1 (.int .u8 0) (.t 82) (.t 83)),oS 85 (.ld (.one (.int .u8 0)) (.t 84)),oS 86 (.toInt .i64 (.t 85)),oS 87 (.call 142 [(.t 81),(.t 86)])]))) (.seq (.reg none [oS 88 (.mv (.t 10)),oS 89 (.mv (.c (.int .i64 0)))]) (.block 4 (.loop b_dfix_1)))))
def b_dfix_2:ACode:=(.seq (.seq (.reg none [oS 16 (.mv (.t 5)),oS 17 (.mv (.t 0)),oS 18 (.len none false (.t 17)),oS 19 (.bin .lss (.t 16) (.t 18))]) (.cond (.t 19) .skip (.exit 0))) (.block 1 (.seq (.reg none [oS 6 (.mv (.c (.int .i64 0))),oS 7 (.mv (.c (.int .i64 0)))]) (.seq (.seq (.reg none [oS 20 (.mv (.t 5)),oS 21 (.bin .add (.t 20) (.c (.int .i64 3))),oS 22 (.mv (.t 0)),oS 23 (.len none false (.t 22)),oS 24 (.bin .leq (.t 21) (.t 23))]) (.cond (.t 24) (.seq (.reg none [oS 26 (.mv (.t 4)),oS 27 (.mv (.t 0)),oS 28 (.mv (.t 5)),oS 29 (.sl 1 (.t 27) (some (.t 28)) none),oS 30 (.s2a 3 (.t 29)),oS 31 (.ld (.arr 3) (.t 30)),oS 32 (.mget true (.a 3) (.int .i64 0) (.t 26) (.t 31)),oS 25 (.mv (.t 32)),oS 33 (.ext (.t 25) 0),oS 34 (.ext (.t 25) 1),oS 8 (.mv (.t 33)),oS 9 (.mv (.t 34))]) (.seq (.reg none [oS 35 (.mv (.t 9)),oS 36 (.mv (.t 35)),oG 37 (.mv (.t 5)) 36,oG 38 (.mv (.t 8)) 36,oG 39 (.bin .sub (.t 37) (.t 38)) 36,oG 40 (.bin .leq (.t 39) (.c (.int .i64 32768))) 36,oS 41 (.pick (.t 36) (.t 40) (.c (.bool false)))]) (.cond (.t 41) (.seq (.reg none [oS 42 (.mv (.t 5)),oS 43 (.mv (.t 8)),oS 44 (.bin .sub (.t 42) (.t 43)),oS 7 (.mv (.t 44))]) (.block 2 (.loop b_dfix_0))) .skip))) .skip)) t_dfix_0))))
def t_dfix_1:ACode:=(.seq (.reg none [oS 106 (.mv (.t 3)),oS 107 (.call 142 [(.t 106),(.c (.int .i64 256))])]) (.seq (.reg none [oS 108 (.mv (.t 3)),oS 109 (.nck (.t 108)),oS 110 (.fa 0 (.t 109)),oS 111 (.ld (.one (.con (.slice none 0 0))) (.t 110)),oS 2 (.mv (.t 111))]) .ret))
def c_dfix:ACode:=(.seq (.reg none [oS 2 (.mv (.c (.con (.slice none 0 0))))]) (.seq (.reg none [oS 11 (.build [(1,(.con (.slice none 0 0))),(1,(.int .i64 0))] []),oS 12 (.box 199 2 (.t 11)),oS 3 (.mv (.t 12))]) (.seq (.reg none [oS 13 (.mv (.t 3)),oS 14 (.call 139 [(.t 13),(.c (.int .i64 3)),(.c (.int .i64 3))])]) (.seq (.reg none [oS 15 (.mkMap (.a 3)),oS 4 (.mv (.t 15))]) (.seq (.seq (.reg none [oS 5 (.mv (.c (.int .i64 0)))]) (.block 0 (.loop b_dfix_2))) t_dfix_1)))))
def r_dfix:List ARes:=[(.t 2)]
theorem s_dfix:slimF Tryz.prog Tryz.f100=some (c_dfix,r_dfix):=by kernel_rfl
def c_draw:ACode:=(.seq (.reg none [oS 2 (.mv (.c (.con (.slice none 0 0))))]) (.seq (.reg none [oS 5 (.mv (.t 0)),oS 6 (.call 100 [(.t 5)]),oS 7 (.mv (.t 0)),oS 8 (.call 101 [(.t 7)]),oS 3 (.mv (.t 6)),oS 4 (.mv (.t 8))]) (.seq (.seq (.reg none [oS 9 (.mv (.t 3)),oS 10 (.len none false (.t 9)),oS 11 (.mv (.t 4)),oS 12 (.len none false (.t 11)),oS 13 (.bin .leq (.t 10) (.t 12))]) (.cond (.t 13) (.seq (.reg none [oS 14 (.mv (.t 3)),oS 2 (.mv (.t 14))]) .ret) .skip)) (.seq (.reg none [oS 15 (.mv (.t 4)),oS 2 (.mv (.t 15))]) .ret))))
def r_draw:List ARes:=[(.t 2)]
theorem s_draw:slimF Tryz.prog Tryz.f58=some (c_draw,r_draw):=by kernel_rfl
end Go.Proofs.YtakolikdebfkeaaGreatDoor
