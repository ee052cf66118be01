import Derived.Test.YtakolikdebfkeaaGreatDoorQFAtoi
import Derived.Test.YtakolikdebfkeaaGreatDoorQFDfl6
import Derived.Test.YtakolikdebfkeaaGreatDoorQFDfl1
import Derived.Test.YtakolikdebfkeaaGreatDoorQAMS
import Derived.Test.YtakolikdebfkeaaGreatDoorQArgs
open Nat (reduceDiv reduceMod reduceSub reduceAdd reduceLeDiff reduceEqDiff)
set_option linter.all false
namespace Go.Proofs.YtakolikdebfkeaaGreatDoor
open Go.RowKit
open Go.Lib (cut)
noncomputable def oopenS (td:Td):Spec:=fun xs hp=>match xs,hp with
 | [.sl k ps],[]=>match objE td (unB ps) with
  | .ok (kd,body)=>some ⟨.tup [.int .i64 kd,.sl 1 (Bs body),.int .i64 0],[],inpOk k ps⟩
  | .error e=>some ⟨.tup [.int .i64 0,.con (.slice none 0 0),.int .i64 (e:Int)],[],inpOk k ps∧e≠9∧e≠0⟩
 | _,_=>none
theorem dec_g3 {a b:Nat} (h:(!decide ((a:Int)=(b:Int)))=false):a=b:=by
 have h' : (a:Int)=(b:Int):=by simpa using h
 omega
theorem cut_len {s p a b:List UInt8} {f:Bool} (h:cut s p=(a,b,f)):a.length≤s.length∧b.length≤s.length:=by
 cases f with
 | false =>
  have:=cut_f (s:=s) (p:=p) (by rw [h])
  rw [h] at this
  obtain ⟨rfl,rfl⟩:=this
  exact ⟨Nat.le_refl _,Nat.zero_le _⟩
 | true =>
  have:=cut_t (s:=s) (p:=p) (by rw [h])
  rw [h] at this
  simp only at this
  rw [this,List.length_append,List.length_append]
  omega
set_option maxRecDepth 8000 in
theorem oopen_ok {td:Td} (hTd:TdOk td):FnOk Tryz.prog 13 (oopenS td):=by
 refine fn_slim2 Tryz.func13 s_oopen (Φ:=(phiL [(44,[],zopenS td),(45,[false,true],bcutS),(46,[],fdecS),(47,[],kindS)])) (phi_cons (zopen_ok hTd) (by kernel_rfl) (phi_cons bcut_ok (by kernel_rfl) (phi_cons fdec_ok (by kernel_rfl) (phi_cons okind_ok (by kernel_rfl) phi_nil)))) ?_
 intro xs hp r hs hp'
 unfold oopenS at hs
 split at hs
 ·rename_i k ps
  have hP:inpOk k ps∧∀ e,objE td (unB ps)=.error e→e≠9∧e≠0:=by
   split at hs
   ·rename_i kd body hz
    injection hs with hs; subst hs
    exact ⟨hp',fun e h=>by rw [hz] at h; cases h⟩
   ·rename_i e hz
    injection hs with hs; subst hs
    exact ⟨hp'.1,fun e' h=>by rw [hz] at h; injection h with h; subst h; exact hp'.2⟩
  obtain ⟨h1,h9⟩:=hP
  have hL:=h1.2.1
  have hbs:=h1.1
  generalize unB ps=b at *
  subst hbs
  refine ⟨len_le (by kernel_rfl),?_⟩
  unfold objE at hs h9
  cases hz:zopenE td b 16777236 with
  | error e =>
   rw [hz] at hs h9
   simp only at hs h9
   injection hs with hs; subst hs
   obtain ⟨e9,e0⟩:=h9 e rfl
   have c1:decide ((e:Int)=0)=false:=decide_eq_false (by omega)
   simp only [c_oopen,r_oopen,zopenS,hz,c1,unB_Bs,Int.reduceToNat,go_sem,reduceDiv,reduceMod,↓reduceIte,Nat.reduceLT,reduceAdd,Int.reduceLE,Int.reduceToNat]
   exact ⟨h1,e9,e0⟩
  | ok w =>
   obtain ⟨x,n⟩:=w
   rw [hz] at hs h9
   simp only at hs h9
   obtain ⟨x1,x2⟩:=zopen_pos hTd hz
   have t0:Nat.toUInt8 0=0:=rfl
   have t32:Nat.toUInt8 32=32:=rfl
   have u0:unB []=[]:=rfl
   have dE:=decB_nil
   have dEf:¬ (false=true):=by decide
   cases hc:(cut x [0]).2.2 with
   | false =>
    have hR:=bcutR_f hc
    have hX:objX (decide (b.length≤n)) x=.error 4:=by unfold objX; rw [if_pos (.inr (.inl hc))]
    rw [hX] at hs
    injection hs with hs; subst hs
    cases hd2:(cut x [32]).2.2 with
    | false =>
     have hR2:=bcutR_f hd2
     simp only [c_oopen,r_oopen,zopenS,bcutS,fdecS,kindS,hz,t0,t32,hR,hR2,u0,dE,unB_Bs,Bs_len,Int.reduceToNat,go_sem,reduceDiv,reduceMod,↓reduceIte,reduceEqDiff,Nat.reduceLT,reduceAdd,reduceLeDiff,Int.reduceLE,Int.reduceToNat]
     refine ⟨h1,?_⟩
     (repeat' apply And.intro) <;> first | omega | trivial | (first | omega | (simp only [lenOk,bytesOk,inI,IntKind.bits,List.length_append,Bs_len,List.length_cons,List.length_nil,List.length_map,List.length_take,List.length_drop,List.length_replicate]; omega))
    | true =>
     have hR2:=bcutR_t hd2
     generalize hcd:cut x [32]=cd at *
     obtain ⟨wd,sz,f⟩:=cd
     simp only at hd2 hR2
     subst hd2
     obtain ⟨l1,l2⟩:=cut_len hcd
     cases hD:decB sz with
     | false =>
      have hDf:¬ (false=true):=by decide
      simp only [c_oopen,r_oopen,zopenS,bcutS,fdecS,kindS,hz,t0,t32,hR,hR2,hD,unB_Bs,Bs_len,Int.reduceToNat,go_sem,reduceDiv,reduceMod,↓reduceIte,reduceEqDiff,Nat.reduceLT,reduceAdd,Int.reduceLE,Int.reduceToNat]
      refine ⟨h1,?_⟩
      (repeat' apply And.intro) <;> first | omega | trivial | (first | omega | (simp only [lenOk,bytesOk,inI,IntKind.bits,List.length_append,Bs_len,List.length_cons,List.length_nil,List.length_map,List.length_take,List.length_drop,List.length_replicate]; omega))
     | true =>
      simp only [c_oopen,r_oopen,zopenS,bcutS,fdecS,kindS,hz,t0,t32,hR,hR2,hD,unB_Bs,Bs_len,Int.reduceToNat,go_sem,reduceDiv,reduceMod,↓reduceIte,reduceEqDiff,Nat.reduceLT,reduceAdd,Int.reduceLE,Int.reduceToNat]
      refine ⟨h1,?_⟩
      (repeat' apply And.intro) <;> first | omega | trivial | (first | omega | (simp only [lenOk,bytesOk,inI,IntKind.bits,List.length_append,Bs_len,List.length_cons,List.length_nil,List.length_map,List.length_take,List.length_drop,List.length_replicate]; omega))
   | true =>
    have hR:=bcutR_t hc
    generalize hcc:cut x [0]=cc at *
    obtain ⟨hd,body,f⟩:=cc
    simp only at hc hR
    subst hc
    obtain ⟨l3,l4⟩:=cut_len hcc
    cases hd2:(cut hd [32]).2.2 with
    | false =>
     have hR2:=bcutR_f hd2
     have hX:objX (decide (b.length≤n)) x=.error 4:=by unfold objX; rw [hcc,if_pos (.inr (.inr (.inl hd2)))]
     rw [hX] at hs
     injection hs with hs; subst hs
     simp only [c_oopen,r_oopen,zopenS,bcutS,fdecS,kindS,hz,t0,t32,hR,hR2,u0,dE,unB_Bs,Bs_len,Int.reduceToNat,go_sem,reduceDiv,reduceMod,↓reduceIte,reduceEqDiff,Nat.reduceLT,reduceAdd,reduceLeDiff,Int.reduceLE,Int.reduceToNat]
     refine ⟨h1,?_⟩
     (repeat' apply And.intro) <;> first | omega | trivial | (first | omega | (simp only [lenOk,bytesOk,inI,IntKind.bits,List.length_append,Bs_len,List.length_cons,List.length_nil,List.length_map,List.length_take,List.length_drop,List.length_replicate]; omega))
    | true =>
     have hR2:=bcutR_t hd2
     generalize hcd:cut hd [32]=cd at *
     obtain ⟨wd,sz,f⟩:=cd
     simp only at hd2 hR2
     subst hd2
     obtain ⟨l1,l2⟩:=cut_len hcd
     have hX:objX (decide (b.length≤n)) x=if b.length≤n∧kindN wd≠0∧decB sz=true∧decN sz=body.length then (if 16777216<body.length then .error 2 else .ok (kindN wd,body)) else .error 4:=by
      unfold objX
      rw [hcc]
      simp only
      rw [hcd]
      simp only
      by_cases h1:b.length≤n <;> by_cases h2:kindN wd=0 <;> cases h3:decB sz <;> by_cases h4:decN sz=body.length <;> simp [h1,h2,h4]
     cases hD:decB sz with
     | false =>
      have hDf:¬ (false=true):=by decide
      rw [hD,if_neg (fun h=>by cases h.2.2.1)] at hX
      rw [hX] at hs
      injection hs with hs; subst hs
      simp only [c_oopen,r_oopen,zopenS,bcutS,fdecS,kindS,hz,t0,t32,hR,hR2,hD,unB_Bs,Bs_len,Int.reduceToNat,go_sem,reduceDiv,reduceMod,↓reduceIte,reduceEqDiff,Nat.reduceLT,reduceAdd,Int.reduceEq,Int.reduceLE,Int.reduceToNat]
      refine ⟨h1,?_⟩
      (repeat' apply And.intro) <;> first | omega | trivial | (first | omega | (simp only [lenOk,bytesOk,inI,IntKind.bits,List.length_append,Bs_len,List.length_cons,List.length_nil,List.length_map,List.length_take,List.length_drop,List.length_replicate]; omega))
     | true =>
      simp only [c_oopen,r_oopen,zopenS,bcutS,fdecS,kindS,hz,t0,t32,hR,hR2,hD,unB_Bs,Bs_len,Int.reduceToNat,go_sem,reduceDiv,reduceMod,↓reduceIte,reduceEqDiff,Nat.reduceLT,reduceAdd,Int.reduceLE,Int.reduceToNat]
      refine ⟨h1,by omega,by omega,by omega,fun g1=>⟨fun g2=>⟨fun g3=>?_,fun g3=>⟨fun g4=>?_,fun g4=>?_⟩⟩,fun g2=>?_⟩,fun g1=>?_⟩
      ·rw [hX,if_neg (fun h=>by simp [h.2.2.2] at g3)] at hs
       injection hs with hs; subst hs; exact ⟨rfl,rfl⟩
      ·have g1:=of_decide_eq_false g1
       have g2:=of_decide_eq_false g2
       have g4:=of_decide_eq_true g4
       rw [hX,if_pos ⟨by omega,g2,hD,dec_g3 g3⟩,if_pos (by omega)] at hs
       injection hs with hs; subst hs; exact ⟨rfl,rfl⟩
      ·have g1:=of_decide_eq_false g1
       have g2:=of_decide_eq_false g2
       have g4:=of_decide_eq_false g4
       rw [hX,if_pos ⟨by omega,g2,hD,dec_g3 g3⟩,if_neg (by omega)] at hs
       injection hs with hs; subst hs; exact ⟨rfl,rfl⟩
      ·have g2:=of_decide_eq_true g2
       rw [hX,if_neg (fun h=>h.2.1 g2)] at hs
       injection hs with hs; subst hs; exact ⟨rfl,rfl⟩
      ·have g1:=of_decide_eq_true g1
       rw [hX,if_neg (fun h=>by omega)] at hs
       injection hs with hs; subst hs; exact ⟨rfl,rfl⟩
 ·cases hs
open Go.Lib (itoa cut)
def wholeL (k:Int) (body:List UInt8):List UInt8:=frontL k body.length ++ body
theorem kindN_cases (s:List UInt8):kindN s=0∨(1≤kindN s∧kindN s≤4∧wordL (kindN s)=s):=by
 unfold kindN
 split
 ·rename_i h; exact .inr ⟨by decide,by decide,h⟩
 ·split
  ·rename_i h; exact .inr ⟨by decide,by decide,h⟩
  ·split
   ·rename_i h; exact .inr ⟨by decide,by decide,h⟩
   ·split
    ·rename_i h; exact .inr ⟨by decide,by decide,h⟩
    ·exact .inl rfl
theorem word_ne {k:Int} (h1:1≤k) (h2:k≤4):wordL k≠[]:=by
 obtain ⟨j,rfl⟩:∃ j:Nat,k=1+(j:Int):=⟨(k - 1).toNat,by omega⟩
 match j,show j<4 by omega with
 | 0,_=>simp [wordL]
 | 1,_=>simp [wordL]
 | 2,_=>simp [wordL]
 | 3,_=>simp [wordL]
theorem objX_is {x hd body:List UInt8} (hc:cut x [0]=(hd,body,true)) {k:Int} (h1:1≤k) (h2:k≤4) (h:wholeL k body=x) (hb:body.length<4611686018427387904):objX true x=if 16777216<body.length then .error 2 else .ok (k,body):=by
 have hw:=word_ne h1 h2
 have hd2:=decBN_some (decV_dec body.length hb)
 rw [← itoa_nat] at hd2
 subst h
 unfold objX wholeL
 rw [front_cut hw]
 simp only
 rw [front_cut2]
 simp only
 rw [(kind_word hw).1,if_neg (by simp only [hd2.1,hd2.2]; simp; omega)]
theorem objX_no {x hd body:List UInt8} (hc:cut x [0]=(hd,body,true)) (h:∀ k:Int,1≤k→k≤4→wholeL k body≠x):objX true x=.error 4:=by
 unfold objX
 rw [hc]
 simp only
 cases hf:(cut hd [32]).2.2 with
 | false=>rw [if_pos (.inr (.inr (.inl rfl)))]
 | true =>
  have ht:=cut_t (s:=hd) (p:=[32]) hf
  generalize (cut hd [32]).1=wd at *
  generalize (cut hd [32]).2.1=sz at *
  by_cases hbad:kindN wd=0∨decB sz=false∨decN sz≠body.length
  ·rw [if_pos (.inr (.inr (.inr hbad)))]
  ·exfalso
   have k0:kindN wd≠0:=fun h=>hbad (.inl h)
   have d0:decB sz=true:=by
    cases hd0:decB sz with
    | false=>exact absurd (.inr (.inl hd0)) hbad
    | true=>rfl
   have n0:decN sz=body.length:=Classical.byContradiction fun h=>hbad (.inr (.inr h))
   rcases kindN_cases wd with hk | ⟨k1,k2,k3⟩
   ·exact k0 hk
   ·refine h (kindN wd) k1 k2 ?_
    have hx:=cut_t (s:=x) (p:=[0]) (by rw [hc])
    rw [hc] at hx
    simp only at hx
    have hs:=itoa_decN d0
    rw [n0] at hs
    unfold wholeL frontL
    rw [k3,hs,hx,ht]
    simp [List.append_assoc]
noncomputable def r9openS:Spec:=fun xs hp=>match xs,hp with
 | [.sl k ps],[]=>match zopenE tdNo (unB ps) 16777236 with
  | .error _=>none
  | .ok (x,n)=>match objX (decide ((unB ps).length≤n)) x with
   | .ok (kd,body)=>some ⟨.tup [.int .i64 kd,.sl 1 (Bs body),.int .i64 0],[],inpOk k ps⟩
   | .error e=>some ⟨.tup [.int .i64 0,.con (.slice none 0 0),.int .i64 (e:Int)],[],inpOk k ps⟩
 | _,_=>none
set_option maxRecDepth 8000 in
theorem r9open_ok:FnOk Tryz.prog 14 r9openS:=by
 refine fn_slim2 Tryz.func14 s_r9open (Φ:=phiL [(48,[],r5openS),(49,[],wholeS)]) (phi_cons r5open_ok (by kernel_rfl) (phi_cons whole_ok (by kernel_rfl) phi_nil)) ?_
 intro xs hp r hs hp'
 unfold r9openS at hs
 split at hs
 ·rename_i k ps
  split at hs
  ·cases hs
  ·rename_i x n hz
   have h1:inpOk k ps:=by
    split at hs <;> (injection hs with hs; subst hs; exact hp')
   have hL:=h1.2.1
   have hbs:=h1.1
   generalize unB ps=b at *
   subst hbs
   obtain ⟨x1,x2⟩:=zopen_pos tdNo_ok hz
   refine ⟨len_le (by kernel_rfl),?_⟩
   simp only [c_r9open,r5openS,hz,unB_Bs,Int.reduceToNat,go_sem,reduceDiv,reduceMod,↓reduceIte,Nat.reduceLT,reduceAdd,Int.reduceLE,Int.reduceToNat]
   refine ⟨h1,?_⟩
   refine loop2P [] [0,5,6,8] [] (fun i:Nat=>⟨[(0,.sl k (Bs b)),(5,.sl 1 (Bs x)),(6,.int .i64 (n:Int)),(8,.int .i64 (i:Int))],[]⟩) (fun i=>i≤x.length∧∀ j,j<i→x.getD j 0≠0) (fun i=>x.length - i) 0 (by rfl) ⟨Nat.zero_le _,fun j h=>by omega⟩ ⟨rfl,by rfl⟩ (fun i hi R hR=>?_)
   obtain ⟨i1,i2⟩:=hi
   by_cases hil:i<x.length
   ·have c1:decide ((i:Int)<(x.length:Int))=true:=decide_eq_true (by omega)
    by_cases h0:x.getD i 0=0
    ·have c2:decide (((x.getD i 0).toNat:Int)=0)=true:=by rw [h0]; rfl
     have hc:cut x [0]=(x.take i,x.drop (i+1),true):=by
      have hx:x=x.take i ++ 0 :: x.drop (i+1):=by
       have h0' : x[i]=0:=by rw [← h0]; simp [List.getD_eq_getElem?_getD,hil]
       rw [← h0',← List.drop_eq_getElem_cons hil,List.take_append_drop]
      conv=>lhs; rw [hx]
      refine cut_1 (fun hm=>?_)
      obtain ⟨j,hj,he⟩:=List.getElem_of_mem hm
      rw [List.length_take] at hj
      refine i2 j (by omega) ?_
      rw [List.getElem_take] at he
      rw [← he]; simp [List.getD_eq_getElem?_getD,show j<x.length by omega]
     by_cases hn:n=b.length
     ·subst hn
      have hdec:decide (b.length≤b.length)=true:=decide_eq_true (Nat.le_refl _)
      rw [hdec] at hs
      have c3:decide ((b.length:Int)=(b.length:Int))=true:=decide_eq_true rfl
      have c4:decide ((i:Int)=(x.length:Int))=false:=decide_eq_false (by omega)
      have e1:List.drop ((i:Int)+1).toNat (List.take x.length (Bs x))=Bs (x.drop (i+1)):=by
       rw [List.take_of_length_le (by rw [Bs_length]; omega),show ((i:Int)+1).toNat=i+1 by omega]; simp [Bs]
      have hbl:(x.drop (i+1)).length=x.length - (i+1):=List.length_drop
      simp only [b_r9open_0,t_r9open_1,c1,c2,c4,Bs_len,Int.toNat_natCast,go_sem,reduceDiv,reduceMod,↓reduceIte]
      refine ⟨⟨by omega,by omega⟩,?_⟩
      refine loop2P [] [5,8,9] [] (fun j:Nat=>⟨[(5,.sl 1 (Bs x)),(8,.int .i64 (i:Int)),(9,.int .i64 ((j+1:Nat):Int))],[]⟩) (fun j=>j≤4∧∀ e:Int,1≤e→e≤j→wholeL e (x.drop (i+1))≠x) (fun j=>4 - j) 0 (by rfl) ⟨Nat.zero_le _,fun e h1 h2=>by omega⟩ ⟨rfl,by rfl⟩ (fun j hj R2 hR2=>?_)
      obtain ⟨j1,j2⟩:=hj
      by_cases hj4:j<4
      ·have c5:decide (((j+1:Nat):Int)≤4)=true:=decide_eq_true (by omega)
       by_cases heq:wholeL ((j+1:Nat):Int) (x.drop (i+1))=x
       ·have c6:decide (frontL ((j+1:Nat):Int) (x.drop (i+1)).length ++ x.drop (i+1)=x)=true:=decide_eq_true heq
        rw [objX_is hc (by omega) (by omega) heq (by omega)] at hs
        by_cases hbig:16777216<(x.drop (i+1)).length
        ·have c7:decide (16777216<(x.length:Int) - (i:Int) - 1)=true:=decide_eq_true (by omega)
         rw [if_pos hbig] at hs
         injection hs with hs; subst hs
         simp only [b_r9open_1,r_r9open,wholeS,c5,c6,c7,e1,unB_Bs,Bs_len,Int.toNat_natCast,go_sem,reduceDiv,reduceMod,↓reduceIte,reduceEqDiff,reduceSub,Nat.reduceLT,reduceAdd,reduceLeDiff,reduceCtorEq]
         exact ⟨by (first | omega | (simp only [inI]; omega)),⟨by omega,by omega,by omega⟩,by omega,by (first | omega | (simp only [inI]; omega)),by (first | omega | (simp only [inI]; omega))⟩
        ·have c7:decide (16777216<(x.length:Int) - (i:Int) - 1)=false:=decide_eq_false (by omega)
         rw [if_neg hbig] at hs
         injection hs with hs; subst hs
         simp only [b_r9open_1,r_r9open,wholeS,c5,c6,c7,e1,unB_Bs,Bs_len,Int.toNat_natCast,go_sem,reduceDiv,reduceMod,↓reduceIte,reduceEqDiff,reduceSub,Nat.reduceLT,reduceAdd,reduceLeDiff,reduceCtorEq]
         exact ⟨by (first | omega | (simp only [inI]; omega)),⟨by omega,by omega,by omega⟩,by omega,by (first | omega | (simp only [inI]; omega)),by (first | omega | (simp only [inI]; omega)),by (first | omega | (simp only [inI]; omega)),by omega,by omega,by omega⟩
       ·have c6:decide (frontL ((j+1:Nat):Int) (x.drop (i+1)).length ++ x.drop (i+1)=x)=false:=decide_eq_false heq
        simp only [b_r9open_1,wholeS,c5,c6,e1,unB_Bs,Bs_len,Int.toNat_natCast,go_sem,reduceDiv,reduceMod,↓reduceIte,reduceEqDiff,reduceSub,Nat.reduceLT,reduceAdd,reduceLeDiff,reduceCtorEq]
        exact ⟨by (first | omega | (simp only [inI]; omega)),⟨by omega,by omega,by omega⟩,by omega,by (first | omega | (simp only [inI]; omega)),hR2 _ (j+1) ⟨by omega,fun e h1 h2=>by
         by_cases he:e≤(j:Int)
         ·exact j2 e h1 he
         ·obtain rfl:e=((j+1:Nat):Int):=by omega
          exact heq⟩ (by omega) rfl⟩
      ·have c5:decide (((j+1:Nat):Int)≤4)=false:=decide_eq_false (by omega)
       obtain rfl:j=4:=by omega
       rw [objX_no hc (fun k h1 h2=>j2 k h1 (by omega))] at hs
       injection hs with hs; subst hs
       simp only [b_r9open_1,t_r9open_0,r_r9open,go_sem,reduceDiv,reduceMod,↓reduceIte,reduceAdd,Int.reduceLE]
     ·have c3:decide ((n:Int)=(b.length:Int))=false:=decide_eq_false (by omega)
      have hX:objX (decide (b.length≤n)) x=.error 4:=by unfold objX; rw [if_pos (.inl (decide_eq_false (by omega)))]
      rw [hX] at hs
      injection hs with hs; subst hs
      simp only [b_r9open_0,t_r9open_1,r_r9open,c1,c2,c3,Bs_len,Int.toNat_natCast,go_sem,reduceDiv,reduceMod,↓reduceIte]
      exact ⟨by omega,by omega⟩
    ·have c2:decide (((x.getD i 0).toNat:Int)=0)=false:=decide_eq_false (fun h=>h0 (UInt8.toNat_inj.1 (by exact_mod_cast h)))
     simp only [b_r9open_0,c1,c2,Bs_len,Int.toNat_natCast,go_sem,reduceDiv,reduceMod,↓reduceIte]
     exact ⟨⟨by omega,by omega⟩,by (first | omega | (simp only [inI]; omega)),hR _ (i+1) ⟨by omega,fun j h=>by
      rcases Nat.lt_or_ge j i with h' | h'
      ·exact i2 j h'
      ·obtain rfl:j=i:=by omega
       exact h0⟩ (by omega) rfl⟩
   ·have c1:decide ((i:Int)<(x.length:Int))=false:=decide_eq_false (by omega)
    obtain rfl:i=x.length:=by omega
    have hm:(0:UInt8) ∉ x:=fun hm=>by
     obtain ⟨j,hj,he⟩:=List.getElem_of_mem hm
     refine i2 j hj ?_
     rw [← he]; simp [List.getD_eq_getElem?_getD,hj]
    have hc:cut x [0]=(x,[],false):=cut_1n hm
    have hX:objX (decide (b.length≤n)) x=.error 4:=by unfold objX; rw [if_pos (.inr (.inl (by rw [hc])))]
    rw [hX] at hs
    injection hs with hs; subst hs
    have c4:decide ((x.length:Int)=(x.length:Int))=true:=decide_eq_true rfl
    simp only [b_r9open_0,t_r9open_1,r_r9open,c1,Bs_len,go_sem,reduceDiv,reduceMod,↓reduceIte]
 ·cases hs
open Go.Lib (itoa)
def zwrapF:Spec:=fun xs hp=>match xs,hp with
 | [.sl k ps],[]=>some ⟨.sl 1 (Bs (zwrap (unB ps))),[],byOk k ps⟩
 | _,_=>none
theorem zwrapF_ok:FnOk Tryz.prog 21 zwrapF:=zwrap_ok.freezeD fun xs hp r' hs hp' => by
 unfold zwrapF at hs
 split at hs
 ·rename_i k ps
  injection hs with hs; subst hs
  exact ⟨rfl,⟨.own 0 2,[.row 5 1 2 (Bs (zwrap (unB ps)))],byOk k ps⟩,rfl,hp',rfl,by simp [fzV,fzD],rfl,rfl⟩
 ·cases hs
theorem takeBs2 (l:List UInt8) (n:Nat):(Bs l).take n=Bs (l.take n):=by unfold Bs; rw [List.map_take]
theorem inpOk_2 (l:List UInt8) (h:l.length≤1000000000):inpOk 1 (Bs l):=⟨by rw [unB_Bs],by rw [unB_Bs]; exact h,.inl rfl⟩
theorem objX_err {all:Bool} {x:List UInt8} {e:Nat} (h:objX all x=.error e):e=4∨e=2:=by
 unfold objX at h
 split at h
 ·injection h with h; exact .inl h.symm
 ·split at h
  ·injection h with h; exact .inr h.symm
  ·cases h
def lfrontsS:Spec:=fun xs hp=>match xs,hp with
 | [.str _,.sl 1 bs],[]=>some ⟨.bool true,[],bs=Bs (unB bs)⟩
 | _,_=>none
set_option maxRecDepth 8000 in
theorem lfronts_ok:FnOk Tryz.prog 6 lfrontsS:=by
 refine fn_slimZ Tryz.func6 s_lfronts (Φ:=(phiL [(10,[],few9S),(21,[],zwrapF),(13,[],oopenS tdNo),(14,[],r9openS),(12,[],known9S)])) (phi_cons few9_ok (by kernel_rfl) (phi_cons zwrapF_ok (by kernel_rfl) (phi_cons (oopen_ok tdNo_ok) (by kernel_rfl) (phi_cons r9open_ok (by kernel_rfl) (phi_cons known9_ok (by kernel_rfl) phi_nil))))) ?_
 intro xs hp r hs hp'
 unfold lfrontsS at hs
 split at hs
 ·rename_i f bs
  injection hs with hs; subst hs
  have p1:bs=Bs (unB bs):=hp'
  generalize unB bs=l0 at *
  subst p1
  refine ⟨len_le (by kernel_rfl),?_⟩
  have hl:(l0.take 600).length≤600:=by rw [List.length_take]; omega
  have hm:min ((f.length:Int)) 200=((min f.length 200:Nat):Int):=by omega
  have hf:(f.take (min f.length 200)).length≤200:=by rw [List.length_take]; omega
  unfold c_lfronts
  refine .step ?_
  simp only [go_sem,reduceDiv,reduceMod,reduceAdd]
  refine .step ?_
  simp only [few9S,takeBs2,go_sem,reduceDiv,reduceMod,↓reduceIte]
  generalize l0.take 600=l at *
  refine .step ?_
  simp only [hm,List.drop_zero,Int.toNat_natCast,go_sem,reduceDiv,reduceMod,↓reduceIte,Int.reduceLE,Int.reduceToNat]
  refine ⟨⟨by omega,by omega⟩,?_⟩
  generalize f.take (min f.length 200)=g at *
  refine .step ?_
  simp only [Bs_len,← Bs_append,go_sem,reduceDiv,reduceMod,↓reduceIte,reduceAdd]
  have hgl:(g ++ l).length≤800:=by rw [List.length_append]; omega
  refine ⟨by simp only [lenOk]; omega,⟨by simp only [lenOk]; omega,by simp only [bytesOk]; omega⟩,?_⟩
  refine .frz [0] _ rfl ?_
  generalize g ++ l=w at *
  have hdl:=dflL_len w
  have hzl:=zwrap_len w
  have hz:zopenE tdNo (zwrap w) 16777236=.ok (w,(zwrap w).length):=by
   have:=zopen_wrap (td:=tdNo) w [] (most:=16777236) (by omega)
   rw [List.append_nil] at this
   exact this
  have hdec:decide ((zwrap w).length≤(zwrap w).length)=true:=decide_eq_true (Nat.le_refl _)
  have hE:objE tdNo (zwrap w)=objX true w:=by unfold objE; rw [hz]; simp only [hdec]
  refine .fin ?_
  cases hX:objX true w with
  | error e =>
   have he:=objX_err hX
   rw [hX] at hE
   simp only [r_lfronts,zwrapF,oopenS,r9openS,known9S,hz,hE,hX,unB_Bs,go_sem,reduceDiv,reduceMod,↓reduceIte,reduceEqDiff,Nat.reduceLT,reduceAdd]
   exact ⟨⟨by rw [unB_Bs],rfl,by rw [unB_Bs]; omega⟩,⟨inpOk_2 _ (by omega),by omega,by omega⟩,⟨by rw [unB_Bs],rfl,by rw [unB_Bs]; omega⟩,inpOk_2 _ (by omega),rfl⟩
  | ok v =>
   obtain ⟨kd,body⟩:=v
   rw [hX] at hE
   simp only [r_lfronts,zwrapF,oopenS,r9openS,known9S,hz,hE,hX,unB_Bs,go_sem,reduceDiv,reduceMod,↓reduceIte,reduceEqDiff,Nat.reduceLT,reduceAdd]
   exact ⟨⟨by rw [unB_Bs],rfl,by rw [unB_Bs]; omega⟩,inpOk_2 _ (by omega),⟨by rw [unB_Bs],rfl,by rw [unB_Bs]; omega⟩,inpOk_2 _ (by omega)⟩
 ·cases hs
theorem objectFronts_walk {l0:List UInt8} {A1:Option Addr} {n1 c1:Nat} {l1:List UInt8} (w:World) {p:Prop} (q0:p) (w1:Arg w A1 n1 c1 l1) (g:GlobOk w (fun b=>b<w.heap.size)) :
  Calls Tryz.prog 6 #[.string ⟨l0.toArray⟩,.slice A1 n1 c1] w fun e w' => e=.returned (.bool true)∧Below w.heap.size w w' :=
 lfronts_ok.calls_bool (xs:=[.str l0,.sl 1 (Bs l1)]) rfl (show Bs l1=Bs (unB (Bs l1)) by rw [unB_Bs]) rfl (args_cons (Vl.str' _) (args_cons w1.vl (args_nil g)))
end Go.Proofs.YtakolikdebfkeaaGreatDoor
