import Derived.Test.YtakolikdebfkeaaDoorQFDfl2
import Derived.Test.YtakolikdebfkeaaDoorQZlCode
import Derived.Test.YtakolikdebfkeaaDoorQInfCode
import Derived.Test.YtakolikdebfkeaaDoorQAM9
import Derived.Test.YtakolikdebfkeaaDoorQInfLaw7
open Nat (reduceDiv reduceMod reduceSub reduceAdd reduceLeDiff reduceEqDiff)
set_option linter.all false
namespace Go.Proofs.YtakolikdebfkeaaDoor
open Go.RowKit
def dfixW (b:List UInt8):List Bool:=fixW (toksF b b.length 0)
theorem moreN_le (lim:Nat):∀ f k,moreN lim f k≤f
 | 0,_=>Nat.le_refl _
 | f+1,k=>by
  unfold moreN
  have:=moreN_le lim f (k / 2)
  split <;> omega
theorem lenS_le (n:Nat):(lenS n).2.1≤8:=by
 unfold lenS
 split
 ·exact Nat.zero_le _
 ·split
  ·exact Nat.zero_le _
  ·exact moreN_le 8 8 _
theorem distS_le (n:Nat):(distS n).2.1≤15:=by
 unfold distS
 split
 ·exact Nat.zero_le _
 ·exact moreN_le 4 15 _
theorem cpy_le (n d:Nat):(tokB (.cpy n d)).length≤40:=by
 simp only [tokB,List.length_append,bitsN_length,bitsM_length]
 have:=signB_len (lenS n).1
 have:=lenS_le n
 have:=distS_le d
 omega
def dfix0S:Spec:=fun xs hp=>match xs,hp with
 | [.sl k ps],[]=>some ⟨.own 0 (verW (dfixW (unB ps))),[.row 5 1 (verW (dfixW (unB ps))) (Bs (packW (dfixW (unB ps))))],byOk k ps⟩
 | _,_=>none
theorem phFix_ok:PhiOk Tryd.prog (phiL [(84,[],dnum0S),(87,[],dsignS),(85,[],dlenS),(86,[],ddistS)]):=phi_cons dnum0_ok (by kernel_rfl) (phi_cons dsign_ok (by kernel_rfl) (phi_cons dlen_ok (by kernel_rfl) (phi_cons ddist_ok (by kernel_rfl) phi_nil)))
structure FxI where
 f:Nat
 at_:Nat
 W:List Bool
set_option maxRecDepth 8000 in
theorem dfix_step {Φ:Phi} {b:List UInt8} {at_ step:Nat} {W:List Bool} {s:S2} {Q:Exit→S2→Prop} (hb:b.length≤100000000) (h:at_+step≤b.length)
  (hk:ent [] [0,3,4,5,88,89] [0,1,2] (toS s)=some ⟨[(0,.sl 1 (Bs b)),(3,.ref 0 0 0),(4,.mpv 2),(5,.int .i64 (at_:Int)),(88,.int .i64 (step:Int)),(89,.int .i64 0)],[.cells 137 [(1,.own 1 (verW W)),(1,.int .i64 (W.length:Int))],.row 5 1 (verW W) (Bs (packW W)),.mp (.a 3) (seenM b at_)]⟩)
  (hQ:∀ s',kp [0,3,4,5] 3 (toS s')=some ⟨[(0,.sl 1 (Bs b)),(3,.ref 0 0 0),(4,.mpv 2),(5,.int .i64 ((at_+step:Nat):Int))],[.cells 137 [(1,.own 1 (verW W)),(1,.int .i64 (W.length:Int))],.row 5 1 (verW W) (Bs (packW W)),.mp (.a 3) (seenM b (at_+step))]⟩→Q (.exit 4) s'):loopQ2 0 (awp2 Φ 0 b_dfix_1) Q s:=by
 refine loop2P [] [0,3,4,5,88,89] [0,1,2] (fun i:Nat=>⟨[(0,.sl 1 (Bs b)),(3,.ref 0 0 0),(4,.mpv 2),(5,.int .i64 ((at_+i:Nat):Int)),(88,.int .i64 (step:Int)),(89,.int .i64 (i:Int))],[.cells 137 [(1,.own 1 (verW W)),(1,.int .i64 (W.length:Int))],.row 5 1 (verW W) (Bs (packW W)),.mp (.a 3) (seenM b (at_+i))]⟩) (fun i=>i≤step) (fun i=>step - i) 0 (by rw [hk]; rfl) (Nat.zero_le _) ⟨rfl,by rfl⟩ (fun i hi R hR=>?_)
 by_cases his:i<step
 ·have c1:decide ((i:Int)<(step:Int))=true:=decide_eq_true (by omega)
  by_cases h3:at_+i+3≤b.length
  ·have c2:decide (((at_+i:Nat):Int)+3≤(b.length:Int))=true:=decide_eq_true (by omega)
   have hkk:List.take 3 (List.drop (at_+i) (List.take b.length (Bs b)))=Bs (k3 b (at_+i)):=by
    rw [List.take_of_length_le (l:=Bs b) (by rw [Bs_length]; omega),← k3_take b (at_+i) h3]; simp [Bs]
   have hdl:(List.drop (at_+i) (List.take b.length (Bs b))).length=b.length - (at_+i):=by
    rw [List.take_of_length_le (l:=Bs b) (by rw [Bs_length]; omega),List.length_drop,Bs_length]
   have hk3:(k3 b (at_+i)).length=3:=rfl
   have hsn:seenM b (at_+(i+1))=putM (seenM b (at_+i)) (.a (k3 b (at_+i))) (.int .i64 ((at_+i:Nat):Int)):=by
    rw [← Nat.add_assoc]; show (if at_+i+3≤b.length then _ else _)=_; rw [if_pos h3]
   simp only [b_dfix_1,c1,c2,hkk,hdl,hk3,unB_Bs,unV_U,Int.toNat_natCast,Int.reduceToNat,Bs_len,go_sem,reduceDiv,reduceMod,↓reduceIte,reduceEqDiff,Nat.reduceBEq,reduceSub,Nat.reduceLT,reduceAdd,reduceLeDiff,reduceCtorEq,Int.reduceEq,Int.reduceNe,Int.reduceLT,Int.reduceLE,Int.reduceToNat]
   refine ⟨by (first | omega | (simp only [lenOk,bytesOk,inI,IntKind.bits,List.length_append,Bs_len,List.length_cons,List.length_nil,List.length_map,List.length_take,List.length_drop,List.length_replicate]; omega)),by omega,by omega,by (first | omega | (simp only [lenOk,bytesOk,inI,IntKind.bits,List.length_append,Bs_len,List.length_cons,List.length_nil,List.length_map,List.length_take,List.length_drop,List.length_replicate]; omega)),by (first | omega | (simp only [lenOk,bytesOk,inI,IntKind.bits,List.length_append,Bs_len,List.length_cons,List.length_nil,List.length_map,List.length_take,List.length_drop,List.length_replicate]; omega)),hR _ (i+1) (by omega) (by omega) ?_⟩
   rw [hsn]
   exact kp_mp (ints_put (ints_seen b _)) (by rfl) (by rfl)
  ·have c2:decide (((at_+i:Nat):Int)+3≤(b.length:Int))=false:=decide_eq_false (by omega)
   have hsn:seenM b (at_+(i+1))=seenM b (at_+i):=by
    rw [← Nat.add_assoc]; show (if at_+i+3≤b.length then _ else _)=_; rw [if_neg h3]
   simp only [b_dfix_1,c1,c2,Int.toNat_natCast,Int.reduceToNat,Bs_len,go_sem,reduceDiv,reduceMod,↓reduceIte,reduceEqDiff,Nat.reduceBEq,reduceSub,Nat.reduceLT,reduceAdd,reduceLeDiff,reduceCtorEq,Int.reduceEq,Int.reduceNe,Int.reduceLT,Int.reduceLE,Int.reduceToNat]
   refine ⟨by (first | omega | (simp only [lenOk,bytesOk,inI,IntKind.bits,List.length_append,Bs_len,List.length_cons,List.length_nil,List.length_map,List.length_take,List.length_drop,List.length_replicate]; omega)),by (first | omega | (simp only [lenOk,bytesOk,inI,IntKind.bits,List.length_append,Bs_len,List.length_cons,List.length_nil,List.length_map,List.length_take,List.length_drop,List.length_replicate]; omega)),by (first | omega | (simp only [lenOk,bytesOk,inI,IntKind.bits,List.length_append,Bs_len,List.length_cons,List.length_nil,List.length_map,List.length_take,List.length_drop,List.length_replicate]; omega)),hR _ (i+1) (by omega) (by omega) ?_⟩
   rw [hsn]
   exact kp_mp (ints_seen b _) (by rfl) (by rfl)
 ·have c1:decide ((i:Int)<(step:Int))=false:=decide_eq_false (by omega)
  obtain rfl:i=step:=by omega
  simp only [b_dfix_1,c1,go_sem,reduceDiv,reduceMod,↓reduceIte,reduceEqDiff,Nat.reduceBEq,reduceSub,Nat.reduceLT,reduceAdd,reduceLeDiff,reduceCtorEq,Int.reduceEq,Int.reduceNe,Int.reduceLT,Int.reduceLE,Int.reduceToNat]
  exact hQ _ (kp_mp (ints_seen b _) (by rfl) (by rfl))
set_option maxRecDepth 8000 in
set_option maxHeartbeats 4000000 in
theorem dfix0_ok:FnOk Tryd.prog 55 dfix0S:=by
 refine fn_slim2 Tryd.func55 s_dfix phFix_ok ?_
 intro xs hp r hs hp'
 unfold dfix0S at hs
 split at hs
 ·rename_i k ps
  injection hs with hs; subst hs
  obtain ⟨h1,h2,h3⟩:=hp'
  generalize unB ps=b at *
  subst h1 h2
  refine ⟨len_le (by kernel_rfl),?_⟩
  simp only [c_dfix,dnum0S,dbQ,Int.reduceToNat,go_sem,reduceDiv,reduceMod,↓reduceIte,reduceEqDiff,Nat.reduceBEq,reduceSub,Nat.reduceLT,reduceAdd,reduceLeDiff,reduceCtorEq,Int.reduceEq,Int.reduceNe,Int.reduceLT,Int.reduceLE,Int.reduceToNat]
  refine loop2P [] [0,3,4,5] [0,1,2] (fun i:FxI=>⟨[(0,.sl 1 (Bs b)),(3,.ref 0 0 0),(4,.mpv 2),(5,.int .i64 (i.at_:Int))],[.cells 137 [(1,.own 1 (verW i.W)),(1,.int .i64 (i.W.length:Int))],.row 5 1 (verW i.W) (Bs (packW i.W)),.mp (.a 3) (seenM b i.at_)]⟩) (fun i=>i.at_≤b.length∧b.length - i.at_≤i.f∧i.W ++ ((toksF b i.f i.at_).flatMap tokB ++ signB 256)=dfixW b∧i.W.length≤3+40 * i.at_) (fun i=>b.length - i.at_) ⟨b.length,0,bitsN 3 3⟩ (by rfl) ⟨Nat.zero_le _,by simp only; omega,rfl,by simp only [bitsN_length]; omega⟩ ⟨rfl,by rfl⟩ (fun i hi R hR=>?_)
  obtain ⟨f,at_,W⟩:=i
  obtain ⟨i1,i2,i3,i4⟩:=hi
  simp only at i1 i2 i3 i4
  have hWd:=dOk_W W (by omega)
  by_cases hal:at_<b.length
  ·have c1:decide ((at_:Int)<(b.length:Int))=true:=decide_eq_true (by omega)
   by_cases h3a:at_+3≤b.length
   ·have c2:decide ((at_:Int)+3≤(b.length:Int))=true:=decide_eq_true (by omega)
    have hkk:List.take 3 (List.drop at_ (List.take b.length (Bs b)))=Bs (k3 b at_):=by
     rw [List.take_of_length_le (l:=Bs b) (by rw [Bs_length]; omega),← k3_take b at_ h3a]; simp [Bs]
    have hdl:(List.drop at_ (List.take b.length (Bs b))).length=b.length - at_:=by
     rw [List.take_of_length_le (l:=Bs b) (by rw [Bs_length]; omega),List.length_drop,Bs_length]
    have hk3:(k3 b at_).length=3:=rfl
    have hgm:=getM_seen b at_ at_ (by omega)
    cases hlp:lastP b at_ at_ with
    | none =>
     rw [hlp] at hgm
     simp only [b_dfix_2,c1,c2,hkk,hdl,hk3,hgm,unB_Bs,unV_U,Option.map_none,Int.toNat_natCast,Int.reduceToNat,Bs_len,go_sem,reduceDiv,reduceMod,↓reduceIte,reduceEqDiff,Nat.reduceBEq,reduceSub,Nat.reduceLT,reduceAdd,reduceLeDiff,reduceCtorEq,Int.reduceEq,Int.reduceNe,Int.reduceLT,Int.reduceLE,Int.reduceToNat]
     refine ⟨by (first | omega | (simp only [lenOk,bytesOk,inI,IntKind.bits,List.length_append,Bs_len,List.length_cons,List.length_nil,List.length_map,List.length_take,List.length_drop,List.length_replicate]; omega)),by omega,by omega,?_⟩
     simp only [t_dfix_0,dsignS,dbQ,dW_pack,Int.toNat_natCast,Int.reduceToNat,Bs_len,go_sem,reduceDiv,reduceMod,↓reduceIte,reduceEqDiff,Nat.reduceBEq,reduceSub,Nat.reduceLT,reduceAdd,reduceLeDiff,reduceCtorEq,Int.reduceEq,Int.reduceNe,Int.reduceLT,Int.reduceLE,Int.reduceToNat]
     have hu:=(b.getD at_ 0).toNat_lt
     obtain ⟨f,rfl⟩:∃ g,f=g+1:=⟨f - 1,by omega⟩
     have htk:toksF b (f+1) at_=.lit (b.getD at_ 0) :: toksF b f (at_+1):=by
      show (if at_<b.length then tokS b at_ :: toksF b f (at_+stepT (tokS b at_)) else [])=_
      have:tokS b at_=.lit (b.getD at_ 0):=by unfold tokS; rw [if_pos h3a,hlp]
      rw [if_pos hal,this]; rfl
     have hsl:=signB_len (b.getD at_ 0).toNat
     refine ⟨by omega,by (first | omega | (simp only [lenOk,bytesOk,inI,IntKind.bits,List.length_append,Bs_len,List.length_cons,List.length_nil,List.length_map,List.length_take,List.length_drop,List.length_replicate]; omega)),⟨hWd,by omega,by omega,by omega⟩,dfix_step (at_:=at_) (step:=1) (W:=W ++ signB (b.getD at_ 0).toNat) h3 (by omega) (ent_mp (ints_seen b _) (by rfl) (by rfl)) (fun s' hs' => hR s' ⟨f,at_+1,W ++ signB (b.getD at_ 0).toNat⟩ ⟨by simp only; omega,by simp only; omega,by simp only; rw [← i3,htk,List.flatMap_cons]; simp only [List.append_assoc]; rfl,by simp only [List.length_append]; omega⟩ (by simp only; omega) hs')⟩
    | some p =>
     rw [hlp] at hgm
     have hpl:=lastP_lt hlp
     by_cases hfar:at_ - p≤32768
     ·have c5:decide ((at_:Int) - (p:Int)≤32768)=true:=decide_eq_true (by omega)
      simp only [b_dfix_2,c1,c2,c5,hkk,hdl,hk3,hgm,unB_Bs,unV_U,Option.map_some,Int.toNat_natCast,Int.reduceToNat,Bs_len,go_sem,reduceDiv,reduceMod,↓reduceIte,reduceEqDiff,Nat.reduceBEq,reduceSub,Nat.reduceLT,reduceAdd,reduceLeDiff,reduceCtorEq,Int.reduceEq,Int.reduceNe,Int.reduceLT,Int.reduceLE,Int.reduceToNat]
      refine ⟨by (first | omega | (simp only [lenOk,bytesOk,inI,IntKind.bits,List.length_append,Bs_len,List.length_cons,List.length_nil,List.length_map,List.length_take,List.length_drop,List.length_replicate]; omega)),by omega,by omega,by (first | omega | (simp only [lenOk,bytesOk,inI,IntKind.bits,List.length_append,Bs_len,List.length_cons,List.length_nil,List.length_map,List.length_take,List.length_drop,List.length_replicate]; omega)),by (first | omega | (simp only [lenOk,bytesOk,inI,IntKind.bits,List.length_append,Bs_len,List.length_cons,List.length_nil,List.length_map,List.length_take,List.length_drop,List.length_replicate]; omega)),?_⟩
      refine loop2P [] [0,3,4,5,6,7,8] [0,1,2] (fun n:Nat=>⟨[(0,.sl 1 (Bs b)),(3,.ref 0 0 0),(4,.mpv 2),(5,.int .i64 (at_:Int)),(6,.int .i64 (n:Int)),(7,.int .i64 ((at_:Int) - (p:Int))),(8,.int .i64 (p:Int))],[.cells 137 [(1,.own 1 (verW W)),(1,.int .i64 (W.length:Int))],.row 5 1 (verW W) (Bs (packW W)),.mp (.a 3) (seenM b at_)]⟩)
       (fun n=>n≤258∧at_+n≤b.length∧mlen b p at_ 258 0=mlen b p at_ (258 - n) n) (fun n=>258 - n) 0 (ent_mp (ints_seen b _) (by rfl) (by rfl)) ⟨by omega,by omega,rfl⟩ ⟨rfl,by rfl⟩ (fun n hn R2 hR2=>?_)
      obtain ⟨n1,n2,n3⟩:=hn
      by_cases hc:n<258∧at_+n<b.length∧b.getD (p+n) 0=b.getD (at_+n) 0
      ·have c6:decide ((n:Int)<258)=true:=decide_eq_true (by omega)
       have c7:decide ((at_:Int)+(n:Int)<(b.length:Int))=true:=decide_eq_true (by omega)
       have c8:decide (((b.getD (p+n) 0).toNat:Int)=((b.getD (at_+n) 0).toNat:Int))=true:=by rw [hc.2.2]; exact decide_eq_true rfl
       have e6:((p:Int)+(n:Int)).toNat=p+n:=by omega
       have e7:((at_:Int)+(n:Int)).toNat=at_+n:=by omega
       have hm:mlen b p at_ (258 - n) n=mlen b p at_ (258 - (n+1)) (n+1):=by
        rw [show 258 - n=(258 - (n+1))+1 by omega]; show (if _ then _ else _)=_; rw [if_pos hc]
       simp only [b_dfix_0,c6,c7,c8,e6,e7,Bs_len,go_sem,reduceDiv,reduceMod,↓reduceIte,reduceEqDiff,Nat.reduceBEq,reduceSub,Nat.reduceLT,reduceAdd,reduceLeDiff,reduceCtorEq,Int.reduceEq,Int.reduceNe,Int.reduceLT,Int.reduceLE,Int.reduceToNat]
       exact ⟨by (first | omega | (simp only [lenOk,bytesOk,inI,IntKind.bits,List.length_append,Bs_len,List.length_cons,List.length_nil,List.length_map,List.length_take,List.length_drop,List.length_replicate]; omega)),by (first | omega | (simp only [lenOk,bytesOk,inI,IntKind.bits,List.length_append,Bs_len,List.length_cons,List.length_nil,List.length_map,List.length_take,List.length_drop,List.length_replicate]; omega)),by omega,by (first | omega | (simp only [lenOk,bytesOk,inI,IntKind.bits,List.length_append,Bs_len,List.length_cons,List.length_nil,List.length_map,List.length_take,List.length_drop,List.length_replicate]; omega)),by omega,by (first | omega | (simp only [lenOk,bytesOk,inI,IntKind.bits,List.length_append,Bs_len,List.length_cons,List.length_nil,List.length_map,List.length_take,List.length_drop,List.length_replicate]; omega)),hR2 _ (n+1) ⟨by omega,by omega,by rw [n3,hm]⟩ (by omega) (kp_mp (ints_seen b _) (by rfl) (by rfl))⟩
      ·have hM:mlen b p at_ 258 0=n:=by
        rw [n3]
        rcases Nat.lt_or_ge n 258 with h | h
        ·rw [show 258 - n=(258 - (n+1))+1 by omega]; show (if _ then _ else _)=_; rw [if_neg hc]
        ·rw [show 258 - n=0 by omega]; rfl
       have hu:=(b.getD at_ 0).toNat_lt
       obtain ⟨f,rfl⟩:∃ g,f=g+1:=⟨f - 1,by omega⟩
       have e6:((p:Int)+(n:Int)).toNat=p+n:=by omega
       have e7:((at_:Int)+(n:Int)).toNat=at_+n:=by omega
       have hsl:=signB_len (b.getD at_ 0).toNat
       by_cases hn3:3≤n
       ·have c9:decide ((3:Int)≤(n:Int))=true:=decide_eq_true (by omega)
        have htk:toksF b (f+1) at_=.cpy n (at_ - p) :: toksF b f (at_+n):=by
         show (if at_<b.length then tokS b at_ :: toksF b f (at_+stepT (tokS b at_)) else [])=_
         have:tokS b at_=.cpy n (at_ - p):=by unfold tokS; rw [if_pos h3a,hlp]; simp only; rw [hM,if_pos ⟨hfar,hn3⟩]
         rw [if_pos hal,this]; rfl
        have e9:((at_:Int) - (p:Int)).toNat=at_ - p:=by omega
        have eW:W ++ signB (lenS n).1 ++ bitsN (lenS n).2.1 (lenS n).2.2 ++ bitsM 5 (distS (at_ - p)).1 ++ bitsN (distS (at_ - p)).2.1 (distS (at_ - p)).2.2=W ++ tokB (.cpy n (at_ - p)):=by simp only [tokB,List.append_assoc]
        have hcl:=cpy_le n (at_ - p)
        have hWl:(W ++ signB (lenS n).1 ++ bitsN (lenS n).2.1 (lenS n).2.2).length≤W.length+20:=by
         rw [List.length_append,List.length_append,bitsN_length]
         have:=signB_len (lenS n).1
         have:=lenS_le n
         omega
        have hWd2:=dOk_W (W ++ signB (lenS n).1 ++ bitsN (lenS n).2.1 (lenS n).2.2) (by omega)
        rcases Nat.lt_or_ge n 258 with h58 | h58
        ·have c6:decide ((n:Int)<258)=true:=decide_eq_true (by omega)
         rcases Nat.lt_or_ge (at_+n) b.length with hbl | hbl
         ·have c7:decide ((at_:Int)+(n:Int)<(b.length:Int))=true:=decide_eq_true (by omega)
          have c8:decide (((b.getD (p+n) 0).toNat:Int)=((b.getD (at_+n) 0).toNat:Int))=false:=decide_eq_false (fun h=>hc ⟨h58,hbl,UInt8.toNat_inj.1 (by exact_mod_cast h)⟩)
          simp only [b_dfix_0,t_dfix_0,c6,c7,c8,c9,e6,e7,e9,eW,dlenS,ddistS,dbQ,dW_pack,← List.append_assoc,Int.toNat_natCast,Int.reduceToNat,Bs_len,go_sem,reduceDiv,reduceMod,↓reduceIte,reduceEqDiff,Nat.reduceBEq,reduceSub,Nat.reduceLT,reduceAdd,reduceLeDiff,reduceCtorEq,Int.reduceEq,Int.reduceNe,Int.reduceLT,Int.reduceLE,Int.reduceToNat]
          refine ⟨by (first | omega | (simp only [lenOk,bytesOk,inI,IntKind.bits,List.length_append,Bs_len,List.length_cons,List.length_nil,List.length_map,List.length_take,List.length_drop,List.length_replicate]; omega)),by (first | omega | (simp only [lenOk,bytesOk,inI,IntKind.bits,List.length_append,Bs_len,List.length_cons,List.length_nil,List.length_map,List.length_take,List.length_drop,List.length_replicate]; omega)),⟨by omega,by omega⟩,by (first | omega | (simp only [lenOk,bytesOk,inI,IntKind.bits,List.length_append,Bs_len,List.length_cons,List.length_nil,List.length_map,List.length_take,List.length_drop,List.length_replicate]; omega)),⟨by omega,by omega⟩,⟨hWd,by omega,by omega,by omega⟩,⟨hWd2,by omega,by omega,by omega⟩,dfix_step (at_:=at_) (step:=n) (W:=W ++ tokB (.cpy n (at_ - p))) h3 (by omega) (ent_mp (ints_seen b _) (by rfl) (by rfl)) (fun s' hs' => hR s' ⟨f,at_+n,W ++ tokB (.cpy n (at_ - p))⟩ ⟨by simp only; omega,by simp only; omega,by simp only; rw [← i3,htk,List.flatMap_cons]; simp only [List.append_assoc],by simp only [List.length_append]; omega⟩ (by simp only; omega) hs')⟩
         ·have c7:decide ((at_:Int)+(n:Int)<(b.length:Int))=false:=decide_eq_false (by omega)
          simp only [b_dfix_0,t_dfix_0,c6,c7,c9,e6,e7,e9,eW,dlenS,ddistS,dbQ,dW_pack,← List.append_assoc,Int.toNat_natCast,Int.reduceToNat,Bs_len,go_sem,reduceDiv,reduceMod,↓reduceIte,reduceEqDiff,Nat.reduceBEq,reduceSub,Nat.reduceLT,reduceAdd,reduceLeDiff,reduceCtorEq,Int.reduceEq,Int.reduceNe,Int.reduceLT,Int.reduceLE,Int.reduceToNat]
          refine ⟨by (first | omega | (simp only [lenOk,bytesOk,inI,IntKind.bits,List.length_append,Bs_len,List.length_cons,List.length_nil,List.length_map,List.length_take,List.length_drop,List.length_replicate]; omega)),⟨hWd,by omega,by omega,by omega⟩,⟨hWd2,by omega,by omega,by omega⟩,dfix_step (at_:=at_) (step:=n) (W:=W ++ tokB (.cpy n (at_ - p))) h3 (by omega) (ent_mp (ints_seen b _) (by rfl) (by rfl)) (fun s' hs' => hR s' ⟨f,at_+n,W ++ tokB (.cpy n (at_ - p))⟩ ⟨by simp only; omega,by simp only; omega,by simp only; rw [← i3,htk,List.flatMap_cons]; simp only [List.append_assoc],by simp only [List.length_append]; omega⟩ (by simp only; omega) hs')⟩
        ·have c6:decide ((n:Int)<258)=false:=decide_eq_false (by omega)
         simp only [b_dfix_0,t_dfix_0,c6,c9,e6,e7,e9,eW,dlenS,ddistS,dbQ,dW_pack,← List.append_assoc,Int.toNat_natCast,Int.reduceToNat,Bs_len,go_sem,reduceDiv,reduceMod,↓reduceIte,reduceEqDiff,Nat.reduceBEq,reduceSub,Nat.reduceLT,reduceAdd,reduceLeDiff,reduceCtorEq,Int.reduceEq,Int.reduceNe,Int.reduceLT,Int.reduceLE,Int.reduceToNat]
         refine ⟨⟨hWd,by omega,by omega,by omega⟩,⟨hWd2,by omega,by omega,by omega⟩,dfix_step (at_:=at_) (step:=n) (W:=W ++ tokB (.cpy n (at_ - p))) h3 (by omega) (ent_mp (ints_seen b _) (by rfl) (by rfl)) (fun s' hs' => hR s' ⟨f,at_+n,W ++ tokB (.cpy n (at_ - p))⟩ ⟨by simp only; omega,by simp only; omega,by simp only; rw [← i3,htk,List.flatMap_cons]; simp only [List.append_assoc],by simp only [List.length_append]; omega⟩ (by simp only; omega) hs')⟩
       ·have c9:decide ((3:Int)≤(n:Int))=false:=decide_eq_false (by omega)
        have htk:toksF b (f+1) at_=.lit (b.getD at_ 0) :: toksF b f (at_+1):=by
         show (if at_<b.length then tokS b at_ :: toksF b f (at_+stepT (tokS b at_)) else [])=_
         have:tokS b at_=.lit (b.getD at_ 0):=by unfold tokS; rw [if_pos h3a,hlp]; simp only; rw [hM,if_neg (fun h=>hn3 h.2)]
         rw [if_pos hal,this]; rfl
        rcases Nat.lt_or_ge n 258 with h58 | h58
        ·have c6:decide ((n:Int)<258)=true:=decide_eq_true (by omega)
         rcases Nat.lt_or_ge (at_+n) b.length with hbl | hbl
         ·have c7:decide ((at_:Int)+(n:Int)<(b.length:Int))=true:=decide_eq_true (by omega)
          have c8:decide (((b.getD (p+n) 0).toNat:Int)=((b.getD (at_+n) 0).toNat:Int))=false:=decide_eq_false (fun h=>hc ⟨h58,hbl,UInt8.toNat_inj.1 (by exact_mod_cast h)⟩)
          simp only [b_dfix_0,t_dfix_0,c6,c7,c8,c9,e6,e7,dsignS,dbQ,dW_pack,Int.toNat_natCast,Int.reduceToNat,Bs_len,go_sem,reduceDiv,reduceMod,↓reduceIte,reduceEqDiff,Nat.reduceBEq,reduceSub,Nat.reduceLT,reduceAdd,reduceLeDiff,reduceCtorEq,Int.reduceEq,Int.reduceNe,Int.reduceLT,Int.reduceLE,Int.reduceToNat]
          refine ⟨by (first | omega | (simp only [lenOk,bytesOk,inI,IntKind.bits,List.length_append,Bs_len,List.length_cons,List.length_nil,List.length_map,List.length_take,List.length_drop,List.length_replicate]; omega)),by (first | omega | (simp only [lenOk,bytesOk,inI,IntKind.bits,List.length_append,Bs_len,List.length_cons,List.length_nil,List.length_map,List.length_take,List.length_drop,List.length_replicate]; omega)),⟨by omega,by omega⟩,by (first | omega | (simp only [lenOk,bytesOk,inI,IntKind.bits,List.length_append,Bs_len,List.length_cons,List.length_nil,List.length_map,List.length_take,List.length_drop,List.length_replicate]; omega)),⟨by omega,by omega⟩,⟨by omega,by omega⟩,by (first | omega | (simp only [lenOk,bytesOk,inI,IntKind.bits,List.length_append,Bs_len,List.length_cons,List.length_nil,List.length_map,List.length_take,List.length_drop,List.length_replicate]; omega)),⟨hWd,by omega,by omega,by omega⟩,dfix_step (at_:=at_) (step:=1) (W:=W ++ signB (b.getD at_ 0).toNat) h3 (by omega) (ent_mp (ints_seen b _) (by rfl) (by rfl)) (fun s' hs' => hR s' ⟨f,at_+1,W ++ signB (b.getD at_ 0).toNat⟩ ⟨by simp only; omega,by simp only; omega,by simp only; rw [← i3,htk,List.flatMap_cons]; simp only [List.append_assoc]; rfl,by simp only [List.length_append]; omega⟩ (by simp only; omega) hs')⟩
         ·have c7:decide ((at_:Int)+(n:Int)<(b.length:Int))=false:=decide_eq_false (by omega)
          simp only [b_dfix_0,t_dfix_0,c6,c7,c9,e6,e7,dsignS,dbQ,dW_pack,Int.toNat_natCast,Int.reduceToNat,Bs_len,go_sem,reduceDiv,reduceMod,↓reduceIte,reduceEqDiff,Nat.reduceBEq,reduceSub,Nat.reduceLT,reduceAdd,reduceLeDiff,reduceCtorEq,Int.reduceEq,Int.reduceNe,Int.reduceLT,Int.reduceLE,Int.reduceToNat]
          refine ⟨by (first | omega | (simp only [lenOk,bytesOk,inI,IntKind.bits,List.length_append,Bs_len,List.length_cons,List.length_nil,List.length_map,List.length_take,List.length_drop,List.length_replicate]; omega)),⟨by omega,by omega⟩,by (first | omega | (simp only [lenOk,bytesOk,inI,IntKind.bits,List.length_append,Bs_len,List.length_cons,List.length_nil,List.length_map,List.length_take,List.length_drop,List.length_replicate]; omega)),⟨hWd,by omega,by omega,by omega⟩,dfix_step (at_:=at_) (step:=1) (W:=W ++ signB (b.getD at_ 0).toNat) h3 (by omega) (ent_mp (ints_seen b _) (by rfl) (by rfl)) (fun s' hs' => hR s' ⟨f,at_+1,W ++ signB (b.getD at_ 0).toNat⟩ ⟨by simp only; omega,by simp only; omega,by simp only; rw [← i3,htk,List.flatMap_cons]; simp only [List.append_assoc]; rfl,by simp only [List.length_append]; omega⟩ (by simp only; omega) hs')⟩
        ·have c6:decide ((n:Int)<258)=false:=decide_eq_false (by omega)
         simp only [b_dfix_0,t_dfix_0,c6,c9,e6,e7,dsignS,dbQ,dW_pack,Int.toNat_natCast,Int.reduceToNat,Bs_len,go_sem,reduceDiv,reduceMod,↓reduceIte,reduceEqDiff,Nat.reduceBEq,reduceSub,Nat.reduceLT,reduceAdd,reduceLeDiff,reduceCtorEq,Int.reduceEq,Int.reduceNe,Int.reduceLT,Int.reduceLE,Int.reduceToNat]
         refine ⟨⟨by omega,by omega⟩,by (first | omega | (simp only [lenOk,bytesOk,inI,IntKind.bits,List.length_append,Bs_len,List.length_cons,List.length_nil,List.length_map,List.length_take,List.length_drop,List.length_replicate]; omega)),⟨hWd,by omega,by omega,by omega⟩,dfix_step (at_:=at_) (step:=1) (W:=W ++ signB (b.getD at_ 0).toNat) h3 (by omega) (ent_mp (ints_seen b _) (by rfl) (by rfl)) (fun s' hs' => hR s' ⟨f,at_+1,W ++ signB (b.getD at_ 0).toNat⟩ ⟨by simp only; omega,by simp only; omega,by simp only; rw [← i3,htk,List.flatMap_cons]; simp only [List.append_assoc]; rfl,by simp only [List.length_append]; omega⟩ (by simp only; omega) hs')⟩
     ·have c5:decide ((at_:Int) - (p:Int)≤32768)=false:=decide_eq_false (by omega)
      simp only [b_dfix_2,c1,c2,c5,hkk,hdl,hk3,hgm,unB_Bs,unV_U,Option.map_some,Int.toNat_natCast,Int.reduceToNat,Bs_len,go_sem,reduceDiv,reduceMod,↓reduceIte,reduceEqDiff,Nat.reduceBEq,reduceSub,Nat.reduceLT,reduceAdd,reduceLeDiff,reduceCtorEq,Int.reduceEq,Int.reduceNe,Int.reduceLT,Int.reduceLE,Int.reduceToNat]
      refine ⟨by (first | omega | (simp only [lenOk,bytesOk,inI,IntKind.bits,List.length_append,Bs_len,List.length_cons,List.length_nil,List.length_map,List.length_take,List.length_drop,List.length_replicate]; omega)),by omega,by omega,by (first | omega | (simp only [lenOk,bytesOk,inI,IntKind.bits,List.length_append,Bs_len,List.length_cons,List.length_nil,List.length_map,List.length_take,List.length_drop,List.length_replicate]; omega)),?_⟩
      have hu:=(b.getD at_ 0).toNat_lt
      obtain ⟨f,rfl⟩:∃ g,f=g+1:=⟨f - 1,by omega⟩
      have hsl:=signB_len (b.getD at_ 0).toNat
      have htk:toksF b (f+1) at_=.lit (b.getD at_ 0) :: toksF b f (at_+1):=by
       show (if at_<b.length then tokS b at_ :: toksF b f (at_+stepT (tokS b at_)) else [])=_
       have:tokS b at_=.lit (b.getD at_ 0):=by unfold tokS; rw [if_pos h3a,hlp]; simp only; rw [if_neg (fun h=>hfar h.1)]
       rw [if_pos hal,this]; rfl
      simp only [t_dfix_0,dsignS,dbQ,dW_pack,Int.toNat_natCast,Int.reduceToNat,Bs_len,go_sem,reduceDiv,reduceMod,↓reduceIte,reduceEqDiff,Nat.reduceBEq,reduceSub,Nat.reduceLT,reduceAdd,reduceLeDiff,reduceCtorEq,Int.reduceEq,Int.reduceNe,Int.reduceLT,Int.reduceLE,Int.reduceToNat]
      refine ⟨⟨by omega,by omega⟩,by (first | omega | (simp only [lenOk,bytesOk,inI,IntKind.bits,List.length_append,Bs_len,List.length_cons,List.length_nil,List.length_map,List.length_take,List.length_drop,List.length_replicate]; omega)),⟨hWd,by omega,by omega,by omega⟩,dfix_step (at_:=at_) (step:=1) (W:=W ++ signB (b.getD at_ 0).toNat) h3 (by omega) (ent_mp (ints_seen b _) (by rfl) (by rfl)) (fun s' hs' => hR s' ⟨f,at_+1,W ++ signB (b.getD at_ 0).toNat⟩ ⟨by simp only; omega,by simp only; omega,by simp only; rw [← i3,htk,List.flatMap_cons]; simp only [List.append_assoc]; rfl,by simp only [List.length_append]; omega⟩ (by simp only; omega) hs')⟩
   ·have c2:decide ((at_:Int)+3≤(b.length:Int))=false:=decide_eq_false (by omega)
    simp only [b_dfix_2,c1,c2,unB_Bs,unV_U,Int.toNat_natCast,Int.reduceToNat,Bs_len,go_sem,reduceDiv,reduceMod,↓reduceIte,reduceEqDiff,Nat.reduceBEq,reduceSub,Nat.reduceLT,reduceAdd,reduceLeDiff,reduceCtorEq,Int.reduceEq,Int.reduceNe,Int.reduceLT,Int.reduceLE,Int.reduceToNat]
    refine ⟨by (first | omega | (simp only [lenOk,bytesOk,inI,IntKind.bits,List.length_append,Bs_len,List.length_cons,List.length_nil,List.length_map,List.length_take,List.length_drop,List.length_replicate]; omega)),?_⟩
    have hu:=(b.getD at_ 0).toNat_lt
    obtain ⟨f,rfl⟩:∃ g,f=g+1:=⟨f - 1,by omega⟩
    have hsl:=signB_len (b.getD at_ 0).toNat
    have htk:toksF b (f+1) at_=.lit (b.getD at_ 0) :: toksF b f (at_+1):=by
     show (if at_<b.length then tokS b at_ :: toksF b f (at_+stepT (tokS b at_)) else [])=_
     have:tokS b at_=.lit (b.getD at_ 0):=by unfold tokS; rw [if_neg h3a]
     rw [if_pos hal,this]; rfl
    simp only [t_dfix_0,dsignS,dbQ,dW_pack,Int.toNat_natCast,Int.reduceToNat,Bs_len,go_sem,reduceDiv,reduceMod,↓reduceIte,reduceEqDiff,Nat.reduceBEq,reduceSub,Nat.reduceLT,reduceAdd,reduceLeDiff,reduceCtorEq,Int.reduceEq,Int.reduceNe,Int.reduceLT,Int.reduceLE,Int.reduceToNat]
    refine ⟨⟨by omega,by omega⟩,by (first | omega | (simp only [lenOk,bytesOk,inI,IntKind.bits,List.length_append,Bs_len,List.length_cons,List.length_nil,List.length_map,List.length_take,List.length_drop,List.length_replicate]; omega)),⟨hWd,by omega,by omega,by omega⟩,dfix_step (at_:=at_) (step:=1) (W:=W ++ signB (b.getD at_ 0).toNat) h3 (by omega) (ent_mp (ints_seen b _) (by rfl) (by rfl)) (fun s' hs' => hR s' ⟨f,at_+1,W ++ signB (b.getD at_ 0).toNat⟩ ⟨by simp only; omega,by simp only; omega,by simp only; rw [← i3,htk,List.flatMap_cons]; simp only [List.append_assoc]; rfl,by simp only [List.length_append]; omega⟩ (by simp only; omega) hs')⟩
  ·have c1:decide ((at_:Int)<(b.length:Int))=false:=decide_eq_false (by omega)
   obtain rfl:at_=b.length:=by omega
   have ht:toksF b f b.length=[]:=by
    cases f with
    | zero=>rfl
    | succ f=>unfold toksF; rw [if_neg (by omega)]
   rw [ht,List.flatMap_nil,List.nil_append] at i3
   simp only [b_dfix_2,t_dfix_1,r_dfix,c1,Bs_len,dsignS,dbQ,dW_pack,i3,Int.reduceToNat,go_sem,reduceDiv,reduceMod,↓reduceIte,reduceEqDiff,Nat.reduceBEq,reduceSub,Nat.reduceLT,reduceAdd,reduceLeDiff,reduceCtorEq,Int.reduceEq,Int.reduceNe,Int.reduceLT,Int.reduceLE,Int.reduceToNat]
   exact ⟨hWd,by omega⟩
 ·cases hs
def dfixS:Spec:=fun xs hp=>match xs,hp with
 | [.sl k ps],[]=>some ⟨.sl 1 (Bs (dflF (unB ps))),[],byOk k ps⟩
 | _,_=>none
theorem dfix_ok:FnOk Tryd.prog 55 dfixS:=dfix0_ok.freezeD fun xs hp r' hs hp' => by
 unfold dfixS at hs
 split at hs
 ·rename_i k ps
  injection hs with hs; subst hs
  refine ⟨rfl,⟨.own 0 (verW (dfixW (unB ps))),[.row 5 1 (verW (dfixW (unB ps))) (Bs (packW (dfixW (unB ps))))],byOk k ps⟩,rfl,hp',rfl,?_,rfl,rfl⟩
  simp [fzV,fzD]
  rfl
 ·cases hs
def dstorS:Spec:=fun xs hp=>match xs,hp with
 | [.sl k ps],[]=>some ⟨.sl 1 (Bs (storW (unB ps))),[],byOk k ps⟩
 | _,_=>none
theorem dstor_ok:FnOk Tryd.prog 56 dstorS:=dstor0_ok.freezeD fun xs hp r' hs hp' => by
 unfold dstorS at hs
 split at hs
 ·rename_i k ps
  injection hs with hs; subst hs
  refine ⟨rfl,⟨.own 0 (storV ((unB ps).length+1) (unB ps)),[.row 5 1 (storV ((unB ps).length+1) (unB ps)) (Bs (storW (unB ps)))],byOk k ps⟩,rfl,hp',rfl,?_,rfl,rfl⟩
  simp [fzV,fzD]
 ·cases hs
def drawS:Spec:=fun xs hp=>match xs,hp with
 | [.sl k ps],[]=>some ⟨.sl 1 (Bs (dflL (unB ps))),[],byOk k ps⟩
 | _,_=>none
theorem draw_ok:FnOk Tryd.prog 33 drawS:=by
 refine fn_slim2 Tryd.func33 s_draw (Φ:=phiL [(55,[],dfixS),(56,[],dstorS)]) (phi_cons dfix_ok (by kernel_rfl) (phi_cons dstor_ok (by kernel_rfl) phi_nil)) ?_
 intro xs hp r hs hp'
 unfold drawS at hs
 split at hs
 ·rename_i k ps
  injection hs with hs; subst hs
  have hP:byOk k ps:=hp'
  refine ⟨len_le (by kernel_rfl),?_⟩
  by_cases hl:(dflF (unB ps)).length≤(storW (unB ps)).length
  ·have c1:decide (((dflF (unB ps)).length:Int)≤((storW (unB ps)).length:Int))=true:=decide_eq_true (by omega)
   have e:dflL (unB ps)=dflF (unB ps):=if_pos hl
   rw [e]
   simp only [c_draw,r_draw,dfixS,dstorS,c1,Bs_len,go_sem,reduceDiv,reduceMod,↓reduceIte,reduceEqDiff,Nat.reduceBEq,reduceSub,Nat.reduceLT,reduceAdd,reduceLeDiff,reduceCtorEq,Int.reduceEq,Int.reduceNe,Int.reduceLT,Int.reduceLE,Int.reduceToNat]
   exact hP
  ·have c1:decide (((dflF (unB ps)).length:Int)≤((storW (unB ps)).length:Int))=false:=decide_eq_false (by omega)
   have e:dflL (unB ps)=storW (unB ps):=if_neg hl
   rw [e]
   simp only [c_draw,r_draw,dfixS,dstorS,c1,Bs_len,go_sem,reduceDiv,reduceMod,↓reduceIte,reduceEqDiff,Nat.reduceBEq,reduceSub,Nat.reduceLT,reduceAdd,reduceLeDiff,reduceCtorEq,Int.reduceEq,Int.reduceNe,Int.reduceLT,Int.reduceLE,Int.reduceToNat]
   exact hP
 ·cases hs
theorem dflL_len (b:List UInt8):(dflL b).length≤6 * b.length+5:=by
 have h:(storW b).length≤6 * b.length+5:=by
  have:=storB_le (b.length+1) b
  unfold storW; omega
 unfold dflL
 split <;> omega
def zwrapS:Spec:=fun xs hp=>match xs,hp with
 | [.sl k ps],[]=>some ⟨.own 0 2,[.row 5 1 2 (Bs (zwrap (unB ps)))],byOk k ps⟩
 | _,_=>none
set_option maxRecDepth 8000 in
theorem zwrap_ok:FnOk Tryd.prog 15 zwrapS:=by
 refine fn_slim2 Tryd.func15 s_zwrap (Φ:=phiL [(32,[],adlerS),(31,[],zfourS),(33,[],drawS)]) (phi_cons adler_ok (by kernel_rfl) (phi_cons zfour_ok (by kernel_rfl) (phi_cons draw_ok (by kernel_rfl) phi_nil))) ?_
 intro xs hp r hs hp'
 unfold zwrapS at hs
 split at hs
 ·rename_i k ps
  injection hs with hs; subst hs
  obtain ⟨h1,h2,h3⟩:=hp'
  generalize unB ps=b at *
  subst h1 h2
  refine ⟨len_le (by kernel_rfl),?_⟩
  simp only [c_zwrap,r_zwrap,adlerS,zfourS,drawS,unB_Bs,Int.toNat_natCast,Bs_len,go_sem,reduceDiv,reduceMod,↓reduceIte,reduceEqDiff,Nat.reduceBEq,reduceSub,Nat.reduceLT,reduceAdd,reduceLeDiff,reduceCtorEq,Int.reduceEq,Int.reduceNe,Int.reduceLT,Int.reduceLE,Int.reduceToNat]
  have hl:=dflL_len b
  have ha:=adlN_lt b
  have e:zwrap b=120 :: 156 :: (dflL b ++ tail4 (adlN b)):=by unfold zwrap; simp [List.append_assoc]
  have e2:AV.int IntKind.u8 120 :: AV.int IntKind.u8 156 :: (Bs (dflL b) ++ Bs (tail4 (adlN b)))=Bs (zwrap b):=by rw [e,← Bs_append]; rfl
  rw [e2]
  have h4:(tail4 (adlN b)).length=4:=rfl
  simp only [List.length_append,Bs_length,h4]
  refine ⟨⟨.inl trivial,by omega⟩,⟨by omega,by omega⟩,trivial,⟨(unB_Bs b).symm ▸ rfl,rfl,by rw [unB_Bs]; omega⟩,⟨by simp only [lenOk]; omega,by simp only [bytesOk]; omega⟩,⟨by simp only [lenOk]; omega,by simp only [bytesOk]; omega⟩,trivial⟩
 ·cases hs
def cnt0 (ls:List Nat) (l:Nat):Nat:=if l=0 then 0 else cntL ls l
def cntV (ls:List Nat):List Value:=(List.range 16).map fun l=>Value.int .i64 (cnt0 ls l:Int)
def sgK (ls:List Nat) (k:Nat):List Nat:=(List.range k).flatMap fun l=>idxs ls (l+1)
def sgs (ls:List Nat):List Nat:=sgK ls 15
def iV (i:Nat):AV:=.int .i64 (i:Int)
def codeV (ls:List Nat):AV:=.agg [(16,.blob (cntV ls)),(1,.sl 1 ((sgs ls).map iV))]
theorem sgK_succ (ls:List Nat) (k:Nat):sgK ls (k+1)=sgK ls k ++ idxs ls (k+1):=by
 unfold sgK
 rw [List.range_succ,List.flatMap_append]; simp
theorem sgK_len (ls:List Nat):∀ k,(sgK ls k).length=totL ls k
 | 0=>rfl
 | k+1=>by rw [sgK_succ,List.length_append,sgK_len ls k,idxs_length]; rfl
theorem sgK_pre (ls:List Nat) (k d:Nat):∃ t,sgK ls (k+d)=sgK ls k ++ t:=by
 induction d with
 | zero=>exact ⟨[],by simp⟩
 | succ d ih =>
  obtain ⟨t,ht⟩:=ih
  exact ⟨t ++ idxs ls (k+d+1),by rw [show k+(d+1)=k+d+1 by omega,sgK_succ,ht,List.append_assoc]⟩
theorem sgs_len (ls:List Nat):(sgs ls).length=totL ls 15:=sgK_len ls 15
theorem sgs_get (ls:List Nat) {l r:Nat} (hl:l<15) (hr:r<cntL ls (l+1)):(sgs ls)[totL ls l+r]?=(idxs ls (l+1))[r]?:=by
 obtain ⟨t,ht⟩:=sgK_pre ls (l+1) (15 - (l+1))
 rw [show l+1+(15 - (l+1))=15 by omega] at ht
 unfold sgs
 have hlen:=sgK_len ls (l+1)
 have h1:totL ls (l+1)=totL ls l+cntL ls (l+1):=rfl
 rw [ht,List.getElem?_append_left (by omega),sgK_succ,List.getElem?_append_right (by rw [sgK_len]; omega),sgK_len,Nat.add_sub_cancel_left]
theorem cntV_get (ls:List Nat) {l:Nat} (hl:l<16) (d:Value):ofC ((cntV ls).getD l d)=.int .i64 (cnt0 ls l:Int):=by
 have:(cntV ls)[l]?=some (Value.int .i64 (cnt0 ls l:Int)):=by
  unfold cntV
  rw [List.getElem?_map,List.getElem?_range hl]; rfl
 rw [List.getD_eq_getElem?_getD,this]; rfl
theorem cntV_len (ls:List Nat):(cntV ls).length=16:=by simp [cntV]
theorem iV_inj {x y:List Nat} (h:x.map iV=y.map iV):x=y:=by
 refine (List.map_inj_right fun a b hab=>?_).1 h
 simp only [iV,AV.int.injEq,true_and] at hab
 omega
theorem codeV_inj {ls ls' : List Nat} (h:codeV ls=codeV ls'):(∀ l,l<16→cnt0 ls l=cnt0 ls' l)∧sgs ls=sgs ls' := by
 unfold codeV at h
 simp only [AV.agg.injEq,List.cons.injEq,Prod.mk.injEq,true_and,AV.blob.injEq,AV.sl.injEq,and_true] at h
 refine ⟨fun l hl=>?_,iV_inj h.2⟩
 have h1:=cntV_get ls hl (Value.int .i64 0)
 rw [h.1,cntV_get ls' hl] at h1
 simp only [AV.int.injEq,true_and] at h1
 omega
theorem cnt_congr {ls ls' : List Nat} (h:codeV ls=codeV ls') {l:Nat} (h0:0<l) (hl:l<16):cntL ls l=cntL ls' l:=by
 have:=(codeV_inj h).1 l hl
 unfold cnt0 at this
 rw [if_neg (by omega),if_neg (by omega)] at this; exact this
theorem tot_congr {ls ls' : List Nat} (h:codeV ls=codeV ls'):∀ k,k≤15→totL ls k=totL ls' k
 | 0,_=>rfl
 | k+1,hk=>by
  have h1:=tot_congr h k (by omega)
  have h2:=cnt_congr h (l:=k+1) (by omega) (by omega)
  show totL ls k+cntL ls (k+1)=totL ls' k+cntL ls' (k+1)
  rw [h1,h2]
theorem fst_congr {ls ls' : List Nat} (h:codeV ls=codeV ls'):∀ k,k≤16→fstL ls k=fstL ls' k
 | 0,_=>rfl
 | k+1,hk=>by
  have h1:=fst_congr h k (by omega)
  unfold fstL
  rw [h1]
  by_cases h0:k=0
  ·rw [if_pos h0,if_pos h0]
  ·rw [if_neg h0,if_neg h0,cnt_congr h (by omega) (by omega)]
theorem idxs_congr {ls ls' : List Nat} (h:codeV ls=codeV ls') {l:Nat} (hl:l<15):idxs ls (l+1)=idxs ls' (l+1):=by
 have hc:=cnt_congr h (l:=l+1) (by omega) (by omega)
 refine List.ext_getElem? fun r=>?_
 rcases Nat.lt_or_ge r (cntL ls (l+1)) with h1 | h1
 ·rw [← sgs_get ls hl h1,← sgs_get ls' hl (by omega),(codeV_inj h).2,tot_congr h l (by omega)]
 ·rw [List.getElem?_eq_none (by rw [idxs_length]; exact h1),List.getElem?_eq_none (by rw [idxs_length]; omega)]
theorem signGo_congr {ls ls' : List Nat} (h:codeV ls=codeV ls') (B:List Bool):∀ k l n p,k+l=15→signGo ls B k l n p=signGo ls' B k l n p
 | 0,_,_,_,_=>rfl
 | k+1,l,n,p,hk=>by
  unfold signGo
  rw [fst_congr h (l+1) (by omega),cnt_congr h (l:=l+1) (by omega) (by omega),idxs_congr h (l:=l) (by omega),tot_congr h (l+1) (by omega),tot_congr h 15 (by omega)]
  split
  ·rfl
  ·split
   ·rfl
   ·split
    ·rfl
    ·exact signGo_congr h B k (l+1) _ _ (by omega)
theorem signE_congr {ls ls' : List Nat} (h:codeV ls=codeV ls'):signE ls=signE ls' := by
 funext B p
 exact signGo_congr h B 15 0 0 p rfl
open Classical in
noncomputable def lsOf (c:AV):List Nat:=if h:∃ ls,c=codeV ls then h.choose else []
theorem lsOf_code (ls:List Nat):codeV (lsOf (codeV ls))=codeV ls:=by
 have h:∃ ls',codeV ls=codeV ls' := ⟨ls,rfl⟩
 unfold lsOf
 rw [dif_pos h]
 exact h.choose_spec.symm
theorem signE_lsOf (ls:List Nat):signE (lsOf (codeV ls))=signE ls:=signE_congr (lsOf_code ls)
theorem tot_lsOf (ls:List Nat):totL (lsOf (codeV ls)) 15=totL ls 15:=tot_congr (lsOf_code ls) 15 (by omega)
theorem signK_congr {ls ls' ds ds' : List Nat} (h1:codeV ls=codeV ls') (h2:codeV ds=codeV ds'):signK ls ds=signK ls' ds' := by
 funext B most K p out
 unfold signK
 rw [signE_congr h1,signE_congr h2,tot_congr h2 15 (by omega)]
theorem signsE_congr {ls ls' ds ds' : List Nat} (h1:codeV ls=codeV ls') (h2:codeV ds=codeV ds'):signsE ls ds=signsE ls' ds' := by
 funext B most k
 induction k with
 | zero=>rfl
 | succ k ih =>
  show signK ls ds B most (signsE ls ds B most k)=signK ls' ds' B most (signsE ls' ds' B most k)
  rw [ih,signK_congr h1 h2]
theorem signsE_lsOf (ls ds:List Nat):signsE (lsOf (codeV ls)) (lsOf (codeV ds))=signsE ls ds:=signsE_congr (lsOf_code ls) (lsOf_code ds)
end Go.Proofs.YtakolikdebfkeaaDoor
