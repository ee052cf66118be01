import Derived.Test.YtgaehhechonegaaGreatDoorWFTrn4
import Derived.Test.YtgaehhechonegaaGreatDoorWFLTrn1
import Derived.Test.YtgaehhechonegaaGreatDoorWFRChg1
import Derived.Test.YtgaehhechonegaaGreatDoorWRDec
import Derived.Test.YtgaehhechonegaaGreatDoorWFTrn1
import Derived.Test.YtgaehhechonegaaGreatDoorWFRFDec
open Nat (reduceDiv reduceMod reduceSub reduceAdd reduceLeDiff reduceEqDiff)
set_option linter.all false
namespace Go.Proofs.YtgaehhechonegaaGreatDoor
open Go.RowKit
open Go.Lib (index hasPrefix cut indexAny itoa)
def rlineS (c:UInt8):Spec:=fun xs hp=>match xs,hp with
 | [.str s],[]=>some ⟨.tup [.str (cut s [c]).1,.str (cut s [c]).2.1],[],s.length≤1000000000000⟩
 | _,_=>none
theorem rline_ok:FnOk Tryz.prog 58 (rlineS 10):=by
 refine fn_slim2 Tryz.func58 s_rline (Φ:=phiL []) phi_nil ?_
 intro xs hp r hs hp'
 unfold rlineS at hs
 split at hs
 ·injection hs with hs; subst hs
  rename_i s
  have p1:s.length≤1000000000000:=hp'
  refine ⟨len_le (by kernel_rfl),?_⟩
  simp only [c_rline,go_sem,reduceDiv,reduceMod]
  refine loop2P (m:=0) [] [0,4] [] (fun i:Nat=>⟨[(0,.str s),(4,.int .i64 (i:Int))],[]⟩) (fun i=>i≤s.length∧(10:UInt8) ∉ s.take i) (fun i=>s.length - i) 0 rfl ⟨by omega,by simp⟩ ⟨rfl,rfl⟩ (fun i hi R hR=>?_)
  obtain ⟨i1,i2⟩:=hi
  by_cases hil:i<s.length
  ·have c1:decide ((i:Int)<(s.length:Int))=true:=decide_eq_true (by omega)
   have hl:=at8_nat hil
   have g1:decide (((s[i].toNat:Nat):Int)=10)=decide (s[i]=10):=u8_eq s[i] 10
   by_cases he:s[i]=10
   ·have c2:decide (s[i]=10)=true:=decide_eq_true he
    have hsp:s=s.take i ++ 10 :: s.drop (i+1):=by
     rw [← he,← List.drop_eq_getElem_cons hil,List.take_append_drop]
    have hcut:=cut_1 (b:=s.drop (i+1)) i2
    rw [← hsp] at hcut
    have e1:((i:Int)+1).toNat=i+1:=by omega
    simp only [b_rline_0,r_rline,c1,hl,g1,c2,hcut,e1,Int.toNat_natCast,List.take_length,go_sem,reduceDiv,reduceMod,↓reduceIte,reduceCtorEq,Int.reduceLE,Int.reduceToNat]
    repeat' apply And.intro
    all_goals first | omega | (first | omega | (simp only [lenOk,bytesOk,inI,IntKind.bits,List.length_append,Bs_len,List.length_cons,List.length_nil,List.length_map,List.length_take,List.length_drop,List.length_replicate]; omega)) | rfl | skip
   ·have c2:decide (s[i]=10)=false:=decide_eq_false he
    simp only [b_rline_0,r_rline,c1,hl,g1,c2,Int.toNat_natCast,go_sem,reduceDiv,reduceMod,↓reduceIte]
    refine ⟨⟨by omega,by omega⟩,⟨by omega,by omega⟩,hR _ (i+1) ⟨by omega,fun hm=>?_⟩ (by omega) rfl⟩
    rcases (takeS_mem hil).1 hm with hm | hm
    ·exact i2 hm
    ·exact he hm.symm
  ·have c1:decide ((i:Int)<(s.length:Int))=false:=decide_eq_false (by omega)
   have e:s.take i=s:=List.take_of_length_le (by omega)
   rw [e] at i2
   rw [cut_1n i2]
   simp only [b_rline_0,t_rline_0,r_rline,c1,go_sem,reduceDiv,reduceMod,↓reduceIte]
 ·cases hs
theorem rblank_ok:FnOk Tryz.prog 59 (rlineS 32):=by
 refine fn_slim2 Tryz.func59 s_rblank (Φ:=phiL []) phi_nil ?_
 intro xs hp r hs hp'
 unfold rlineS at hs
 split at hs
 ·injection hs with hs; subst hs
  rename_i s
  have p1:s.length≤1000000000000:=hp'
  refine ⟨len_le (by kernel_rfl),?_⟩
  simp only [c_rblank,go_sem,reduceDiv,reduceMod]
  refine loop2P (m:=0) [] [0,4] [] (fun i:Nat=>⟨[(0,.str s),(4,.int .i64 (i:Int))],[]⟩) (fun i=>i≤s.length∧(32:UInt8) ∉ s.take i) (fun i=>s.length - i) 0 rfl ⟨by omega,by simp⟩ ⟨rfl,rfl⟩ (fun i hi R hR=>?_)
  obtain ⟨i1,i2⟩:=hi
  by_cases hil:i<s.length
  ·have c1:decide ((i:Int)<(s.length:Int))=true:=decide_eq_true (by omega)
   have hl:=at8_nat hil
   have g1:decide (((s[i].toNat:Nat):Int)=32)=decide (s[i]=32):=u8_eq s[i] 32
   by_cases he:s[i]=32
   ·have c2:decide (s[i]=32)=true:=decide_eq_true he
    have hsp:s=s.take i ++ 32 :: s.drop (i+1):=by
     rw [← he,← List.drop_eq_getElem_cons hil,List.take_append_drop]
    have hcut:=cut_1 (b:=s.drop (i+1)) i2
    rw [← hsp] at hcut
    have e1:((i:Int)+1).toNat=i+1:=by omega
    simp only [b_rblank_0,r_rblank,c1,hl,g1,c2,hcut,e1,Int.toNat_natCast,List.take_length,go_sem,reduceDiv,reduceMod,↓reduceIte,reduceCtorEq,Int.reduceLE,Int.reduceToNat]
    repeat' apply And.intro
    all_goals first | omega | (first | omega | (simp only [lenOk,bytesOk,inI,IntKind.bits,List.length_append,Bs_len,List.length_cons,List.length_nil,List.length_map,List.length_take,List.length_drop,List.length_replicate]; omega)) | rfl | skip
   ·have c2:decide (s[i]=32)=false:=decide_eq_false he
    simp only [b_rblank_0,r_rblank,c1,hl,g1,c2,Int.toNat_natCast,go_sem,reduceDiv,reduceMod,↓reduceIte]
    refine ⟨⟨by omega,by omega⟩,⟨by omega,by omega⟩,hR _ (i+1) ⟨by omega,fun hm=>?_⟩ (by omega) rfl⟩
    rcases (takeS_mem hil).1 hm with hm | hm
    ·exact i2 hm
    ·exact he hm.symm
  ·have c1:decide ((i:Int)<(s.length:Int))=false:=decide_eq_false (by omega)
   have e:s.take i=s:=List.take_of_length_le (by omega)
   rw [e] at i2
   rw [cut_1n i2]
   simp only [b_rblank_0,t_rblank_0,r_rblank,c1,go_sem,reduceDiv,reduceMod,↓reduceIte]
 ·cases hs
noncomputable def rnumbS:Spec:=fun xs hp=>match xs,hp with
 | [.str s],[]=>some ⟨.int .i64 (nmV s),[],s.length≤1000000⟩
 | _,_=>none
theorem rnumb_ok:FnOk Tryz.prog 60 rnumbS:=by
 refine fn_slim2 Tryz.func60 s_rnumb (Φ:=phiL [(86,[],rfdecS)]) (phi_cons rfdec_ok (by kernel_rfl) phi_nil) ?_
 intro xs hp r hs hp'
 unfold rnumbS at hs
 split at hs
 ·injection hs with hs; subst hs
  rename_i s
  have p1:s.length≤1000000:=hp'
  refine ⟨len_le (by kernel_rfl),?_⟩
  have n1:=decN_lt s
  have n2:=decN_lt (s.drop 1)
  cases s with
  | nil =>
   have e:nmV []=(decN []:Int):=by unfold nmV; rfl
   simp only [c_rnumb,r_rnumb,rfdecS,e,go_sem,reduceDiv,reduceMod,↓reduceIte,Nat.reduceLT,reduceAdd,reduceLeDiff,Int.reduceLT]
  | cons x l =>
   have d1:decide (0<((x :: l).length:Int))=true:=decide_eq_true (by rw [List.length_cons]; omega)
   have hat:at8 (x :: l) 0=((x.toNat:Nat):Int):=rfl
   have g1:decide (((x.toNat:Nat):Int)=45)=decide (x=45):=u8_eq x 45
   have ht:(x :: l).take (x :: l).length=x :: l:=List.take_length
   by_cases h:x=45
   ·have d2:decide (x=45)=true:=decide_eq_true h
    have e:nmV (x :: l) = -(decN ((x :: l).drop 1):Int):=by unfold nmV; rw [if_pos (by rw [h]; rfl)]
    have hl0:0<(x :: l).length:=by simp
    generalize hL:(x :: l)=L at *
    simp only [c_rnumb,r_rnumb,rfdecS,e,d1,hat,g1,d2,ht,Int.toNat_natCast,go_sem,reduceDiv,reduceMod,↓reduceIte,Nat.reduceLT,reduceAdd,Int.reduceLE,Int.reduceToNat]
    (repeat' apply And.intro)
    all_goals first | omega | rfl | (first | omega | (simp only [List.length_drop]; omega)) | skip
   ·have d2:decide (x=45)=false:=decide_eq_false h
    have e:nmV (x :: l)=(decN (x :: l):Int):=by unfold nmV; rw [if_neg (by rw [List.head?_cons]; intro hh; injection hh with hh; exact h hh)]
    have hl0:0<(x :: l).length:=by simp
    generalize hL:(x :: l)=L at *
    simp only [c_rnumb,r_rnumb,rfdecS,e,d1,hat,g1,d2,go_sem,reduceDiv,reduceMod,↓reduceIte,Nat.reduceLT,reduceAdd,Int.reduceLE,Int.reduceToNat]
    (repeat' apply And.intro)
    all_goals first | omega | rfl | (first | omega | (simp only [lenOk,bytesOk,inI,IntKind.bits,List.length_append,Bs_len,List.length_cons,List.length_nil,List.length_map,List.length_take,List.length_drop,List.length_replicate]; omega)) | skip
 ·cases hs
set_option maxHeartbeats 4000000 in
theorem rwords_ok:FnOk Tryz.prog 25 twordsS:=by
 refine fn_slim2 Tryz.func25 s_rwords (Φ:=phiL [(44,[],itoaS)]) (phi_cons rdec_ok (by kernel_rfl) phi_nil) ?_
 intro xs hp r hs hp'
 unfold twordsS at hs
 split at hs
 ·injection hs with hs; subst hs
  rename_i m u t z ke es kf fs d
  obtain ⟨q1,q2,q3,q4,q5,q6⟩:=hp'
  generalize es.map unEx=es at *
  subst q1
  rw [List.length_map] at q3
  simp only at q5 q6
  rw [words_shape] at q4 ⊢
  simp only at q4 ⊢
  rw [List.length_append] at q4
  refine ⟨len_le (by kernel_rfl),?_⟩
  have eH:u ++ [10] ++ itoa t ++ [32] ++ itoa z ++ [10]=headT u t z:=by unfold headT; simp
  have hH:(u ++ [10] ++ itoa t ++ [32] ++ itoa z ++ [10]).length=(headT u t z).length:=by rw [eH]
  simp only [List.length_append,List.length_cons,List.length_nil] at hH
  simp only [c_rwords,itoaS,List.length_map,go_sem,reduceDiv,reduceMod,↓reduceIte,reduceSub,Nat.reduceLT,reduceAdd,reduceLeDiff,reduceCtorEq]
  (repeat' apply And.intro)
  all_goals first | exact q5.1 | exact q5.2 | exact q6.1 | exact q6.2 | (first | omega | (simp only [lenOk,List.length_append,List.length_cons,List.length_nil]; omega)) | skip
  refine loop2P (m:=0) [] [1,3,4] [0] (fun i:Nat=>⟨[(1,.ref 0 0 0),(3,.str (headT u t z ++ (es.take i).flatMap exL)),(4,.int .i64 (i:Int))],[.cells 49 [(20,.blob m),(1,.str u),(1,.int .i64 t),(1,.int .i64 z),(1,.sl ke (es.map exV)),(1,.sl kf fs),(1,.str d)]]⟩)
   (fun i=>i≤es.length) (fun i=>es.length - i) 0 ?_ (Nat.zero_le _) ⟨rfl,by rfl⟩ (fun i hi R hR=>?_)
  ·simp only [List.take_zero,List.flatMap_nil,List.append_nil,← eH]
   rfl
  by_cases hil:i<es.length
  ·have c1:decide ((i:Int)<(es.length:Int))=true:=decide_eq_true (by omega)
   have hk:ke=2:=q2.resolve_right (by intro h; have:=congrArg List.length h; simp at this; rw [this] at hil; simp at hil)
   have hget:=getD_map exV es ([],[]) (AV.agg [(1,AV.str []),(1,AV.str [])]) hil
   have hga:es.getD i ([],[])=es[i]:=by simp [List.getD_eq_getElem?_getD,List.getElem?_eq_getElem hil]
   have hle:=flatMap_take_le exL es (i+1)
   have hap:=flatMap_take exL es hil
   rw [← hap,List.length_append] at hle
   subst hk
   generalize hxx:es[i]=x at *
   have hxl:(exL x).length=x.1.length+1+(subst1 10 [10,32] x.2).length+1:=by simp only [exL,List.length_append,List.length_cons,List.length_nil]
   have hsl:=sub_len 10 x.2
   have e:headT u t z ++ (es.take i).flatMap exL ++ x.1 ++ [32] ++ subst1 10 [10,32] x.2 ++ [10]=headT u t z ++ (es.take (i+1)).flatMap exL:=by rw [← hap]; simp [exL]
   simp only [b_rwords_1,c1,hget,hga,exV,Int.toNat_natCast,List.length_map,go_sem,reduceDiv,reduceMod,↓reduceIte,reduceSub,reduceAdd,reduceLeDiff,reduceCtorEq]
   refine ⟨⟨by omega,by omega⟩,?_⟩
   refine loop2P (m:=0) [] [1,3,4,5,6,7] [0] (fun j:Nat=>⟨[(1,.ref 0 0 0),(3,.str (headT u t z ++ (es.take i).flatMap exL)),(4,.int .i64 (i:Int)),(5,.str x.2),(6,.str (subst1 10 [10,32] (x.2.take j))),(7,.int .i64 (j:Int))],[.cells 49 [(20,.blob m),(1,.str u),(1,.int .i64 t),(1,.int .i64 z),(1,.sl 2 (es.map exV)),(1,.sl kf fs),(1,.str d)]]⟩)
    (fun j=>j≤x.2.length) (fun j=>x.2.length - j) 0 (by rfl) (Nat.zero_le _) ⟨rfl,by rfl⟩ (fun j hj R2 hR2=>?_)
   have hst:=subst1_len 10 [10,32] (x.2.take j)
   have htl:(x.2.take j).length≤x.2.length:=by rw [List.length_take]; omega
   simp only [List.length_cons,List.length_nil] at hst
   by_cases hjl:j<x.2.length
   ·have c2:decide ((j:Int)<(x.2.length:Int))=true:=decide_eq_true (by omega)
    have hat:=at8_nat hjl
    have htd:=take_drop1 x.2 hjl
    have e1:((j:Int)+1).toNat=j+1:=by omega
    have hsb:=subst1_take (c:=10) (new:=[10,32]) hjl
    have g1:decide (((x.2[j].toNat:Nat):Int)=10)=decide (x.2[j]=10):=u8_eq x.2[j] 10
    by_cases h10:x.2[j]=10
    ·have d1:decide (x.2[j]=10)=true:=decide_eq_true h10
     rw [if_pos h10] at hsb
     have e2:subst1 10 [10,32] (x.2.take j) ++ [x.2[j]] ++ [32]=subst1 10 [10,32] (x.2.take (j+1)):=by rw [hsb,h10]; simp
     simp only [b_rwords_0,c2,hat,e1,htd,g1,d1,Int.toNat_natCast,go_sem,reduceDiv,reduceMod,↓reduceIte,reduceAdd]
     (repeat' apply And.intro)
     all_goals first | omega | (first | omega | (simp only [lenOk,List.length_append,List.length_cons,List.length_nil]; omega)) | skip
     rw [e2]
     exact hR2 _ (j+1) hjl (by omega) rfl
    ·have d1:decide (x.2[j]=10)=false:=decide_eq_false h10
     rw [if_neg h10] at hsb
     simp only [b_rwords_0,c2,hat,e1,htd,g1,d1,Int.toNat_natCast,go_sem,reduceDiv,reduceMod,↓reduceIte,reduceAdd]
     (repeat' apply And.intro)
     all_goals first | omega | (first | omega | (simp only [lenOk]; omega)) | skip
     rw [← hsb]
     exact hR2 _ (j+1) hjl (by omega) rfl
   ·have c2:decide ((j:Int)<(x.2.length:Int))=false:=decide_eq_false (by omega)
    rw [show x.2.take j=x.2 from List.take_of_length_le (by omega)]
    simp only [b_rwords_0,t_rwords_0,t_rwords_1,c2,hget,hga,exV,Int.toNat_natCast,List.length_map,go_sem,reduceDiv,reduceMod,↓reduceIte,reduceSub,reduceAdd,reduceLeDiff,reduceCtorEq]
    (repeat' apply And.intro)
    all_goals first | omega | (first | omega | (simp only [lenOk,List.length_append,List.length_cons,List.length_nil]; omega)) | skip
    rw [e]
    exact hR _ (i+1) hil (by omega) rfl
  ·have c1:decide ((i:Int)<(es.length:Int))=false:=decide_eq_false (by omega)
   rw [List.take_of_length_le (by omega)]
   simp only [b_rwords_1,t_rwords_2,r_rwords,c1,List.length_map,go_sem,reduceDiv,reduceMod,↓reduceIte,reduceSub,reduceAdd,reduceLeDiff,reduceCtorEq]
 ·cases hs
def raloneS:Spec:=fun xs hp=>match xs,hp with
 | [.agg [(20,.blob _),(1,.sl _ _),(1,.str an),(1,.str am),(1,.int .i64 at'),(1,.str az),(1,.str cn),(1,.str cm),(1,.int .i64 ct),(1,.str cz),(1,.sl ke es),(1,.str m)]],[] =>
  some ⟨.agg [(20,.blob (zr20.map U)),(1,.con (.slice none 0 0)),(1,.str an),(1,.str am),(1,.int .i64 at'),(1,.str az),(1,.str cn),(1,.str cm),(1,.int .i64 ct),(1,.str cz),(1,.sl ke es),(1,.str m)],[],True⟩
 | _,_=>none
theorem ralone_ok:FnOk Tryz.prog 23 raloneS:=by
 refine fn_slim2 Tryz.func23 s_ralone (Φ:=phiL []) phi_nil ?_
 intro xs hp r hs hp'
 unfold raloneS at hs
 split at hs
 ·injection hs with hs; subst hs
  refine ⟨len_le (by kernel_rfl),?_⟩
  simp only [c_ralone,r_ralone,go_sem,reduceDiv,reduceMod,↓reduceIte,reduceSub,reduceAdd,reduceLeDiff,reduceCtorEq]
  repeat' apply And.intro
  all_goals first | rfl | trivial
 ·cases hs
def rownS:Spec:=fun xs hp=>match xs,hp with
 | [.agg [(20,.blob _),(1,.str u),(1,.int .i64 t),(1,.int .i64 z),(1,.sl ke es),(1,.sl _ _),(1,.str d)]],[] =>
  some ⟨.agg [(20,.blob (zr20.map U)),(1,.str u),(1,.int .i64 t),(1,.int .i64 z),(1,.sl ke es),(1,.con (.slice none 0 0)),(1,.str d)],[],True⟩
 | _,_=>none
theorem rown_ok:FnOk Tryz.prog 21 rownS:=by
 refine fn_slim2 Tryz.func21 s_rown (Φ:=phiL []) phi_nil ?_
 intro xs hp r hs hp'
 unfold rownS at hs
 split at hs
 ·injection hs with hs; subst hs
  refine ⟨len_le (by kernel_rfl),?_⟩
  simp only [c_rown,r_rown,go_sem,reduceDiv,reduceMod,↓reduceIte,reduceSub,reduceAdd,reduceLeDiff,reduceCtorEq]
  repeat' apply And.intro
  all_goals first | rfl | trivial
 ·cases hs
noncomputable def rspkS0:Spec:=fun xs hp=>match xs,hp with
 | [.str s,.str d],[]=>some ⟨.tup [.agg [(20,.blob (zr20.map U)),(1,.str (spkC s d).user),(1,.int .i64 (spkC s d).time),(1,.int .i64 (spkC s d).zone),(1,.own 0 (spkC s d).extras.length),(1,.con (.slice none 0 0)),(1,.str d)],.bool (spkB s d)],
   [.row 63 2 (spkC s d).extras.length ((spkC s d).extras.map exV)],s.length≤90000∧d.length≤90000⟩
 | _,_=>none
noncomputable def phiRS:Phi:=phiL [(58,[],rlineS 10),(59,[],rlineS 32),(60,[],rnumbS),(20,[],rgrightS),(25,[],twordsS)]
theorem phiRS_ok:PhiOk Tryz.prog phiRS:=phi_cons rline_ok (by kernel_rfl) (phi_cons rblank_ok (by kernel_rfl) (phi_cons rnumb_ok (by kernel_rfl) (phi_cons rgright_ok (by kernel_rfl) (phi_cons rwords_ok (by kernel_rfl) phi_nil))))
theorem phiRS_1:phiRS 58=some ([],rlineS 10):=rfl
theorem phiRS_2:phiRS 59=some ([],rlineS 32):=rfl
theorem phiRS_3:phiRS 60=some ([],rnumbS):=rfl
theorem phiRS_4:phiRS 20=some ([],rgrightS):=rfl
theorem phiRS_5:phiRS 25=some ([],twordsS):=rfl
theorem pre_cons (x:UInt8) (l:List UInt8):hasPrefix (x :: l) [32]=decide (x=32):=by
 show (([32]:List UInt8).isPrefixOf (x :: l))=_
 rw [Bool.eq_iff_iff]; simp [List.isPrefixOf]
 exact eq_comm
set_option maxHeartbeats 8000000 in
theorem rspk0_ok:FnOk Tryz.prog 34 rspkS0:=by
 refine fn_slim2 Tryz.func34 s_rspk phiRS_ok ?_
 intro xs hp r hs hp'
 unfold rspkS0 at hs
 split at hs
 ·rename_i s d
  injection hs with hs; subst hs
  obtain ⟨p1,p2⟩:=hp'
  refine ⟨len_le (by kernel_rfl),?_⟩
  have a1:=cutY2 s 10
  have a2:=cutY2 (cut s [10]).2.1 10
  have a3:=cutY2 (cut (cut s [10]).2.1 [10]).1 32
  have hsp:spkC s d=⟨zr20,(s1 s).1,nmV (s3 s).1,nmV (s3 s).2.1,spG ((s2 s).2.1.length+1) (s2 s).2.1 [],[],d⟩:=rfl
  simp only [c_rspk,phiRS_1,phiRS_2,phiRS_3,rlineS,rnumbS,go_sem,reduceDiv,reduceMod,↓reduceIte,reduceSub,Nat.reduceLT,reduceAdd,reduceLeDiff,reduceCtorEq]
  refine ⟨by omega,by omega,by omega,by omega,by omega,?_⟩
  have b1:(s1 s).1.length≤90000:=by unfold s1; omega
  have b2:(s2 s).2.1.length≤90000:=by unfold s2 s1; omega
  have b4:=nmV_tr (s3 s).1
  have b5:=nmV_tr (s3 s).2.1
  refine loop2P (m:=0) [(4164,63,2)] [0,4,7,11] [0,1,2] (fun q:List ExL × List UInt8=>⟨[(0,.str s),(4,.ref 0 0 0),(7,.str q.2),(11,.ref 1 0 0)],
   [.cells 49 (chgN [] 0 0 (.con (.slice none 0 0)) []),.cells 49 (chgN (s1 s).1 (nmV (s3 s).1) (nmV (s3 s).2.1) (.own 2 q.1.length) d),.row 63 2 q.1.length (q.1.map exV)]⟩)
   (fun q=>(∃ f,q.2.length<f∧spG f q.2 q.1=spG ((s2 s).2.1.length+1) (s2 s).2.1 [])∧wExt q.1+3 * q.2.length≤270000∧q.1.length+q.2.length≤90000) (fun q=>q.2.length) ([],(s2 s).2.1) (by rfl) ⟨⟨_,Nat.lt_succ_self _,rfl⟩,by simp only [wExt,List.map_nil,List.sum_nil]; omega,by simp only [List.length_nil]; omega⟩ ⟨rfl,by rfl⟩ (fun q hq R hR=>?_)
  clear a1 a2 a3
  generalize (s2 s).2.1=N at *
  generalize nmV (s3 s).1=t at *
  generalize nmV (s3 s).2.1=z at *
  generalize (s1 s).1=u at *
  obtain ⟨acc,w⟩:=q
  simp only at hq hR ⊢
  obtain ⟨⟨f,f1,f2⟩,f3,f4⟩:=hq
  cases h1:decide (w=[]) with
  | false =>
   have h1' := of_decide_eq_false h1
   obtain ⟨w1,w2⟩:=cutY 10 h1'
   have w3:=cutY2 w 10
   have w4:=cutY2 (cut w [10]).1 32
   obtain ⟨k,rfl⟩:∃ k,f=k+1:=⟨f - 1,by omega⟩
   rw [spG,if_neg h1'] at f2
   have hal:∀ x,(acc.map exV ++ [x]).length=acc.length+1:=by intro x; simp
   have hal2:∀ x,(acc ++ [x]).length=acc.length+1:=by intro x; simp
   by_cases hacc:acc=[]
   ·have ha0:acc.length=0:=by rw [hacc]; rfl
    have c1:decide ((0:Int)<(acc.length:Int))=false:=decide_eq_false (by omega)
    rw [if_neg (fun h=>h.2 hacc)] at f2
    simp only [b_rspk_0,chgN,h1,c1,phiRS_1,phiRS_2,rlineS,go_sem,reduceDiv,reduceMod,↓reduceIte,reduceSub,Nat.reduceLT,reduceAdd,reduceLeDiff,reduceCtorEq]
    (repeat' apply And.intro); all_goals first | omega | (rw [hal]; (first | omega | (simp only [lenOk,bytesOk]; omega))) | (first | omega | (simp only [lenOk,bytesOk,inI,IntKind.bits,List.length_append,Bs_len,List.length_cons,List.length_nil,List.length_map,List.length_take,List.length_drop,List.length_replicate]; omega)) | skip
    refine hR _ (acc ++ [((cut (cut w [10]).1 [32]).1,(cut (cut w [10]).1 [32]).2.1)],(cut w [10]).2.1) ⟨⟨k,by simp only; omega,f2⟩,by simp only [wExt_app]; simp only [wExt,List.map_cons,List.map_nil,List.sum_cons,List.sum_nil] at f3 ⊢; omega,by simp only [hal2]; omega⟩ (by simp only; omega) ?_
    simp only [hal2,List.map_append,List.map_cons,List.map_nil]; rfl
   ·have ha0:0<acc.length:=List.length_pos_iff.2 hacc
    have c1:decide ((0:Int)<(acc.length:Int))=true:=decide_eq_true (by omega)
    cases ho:(cut w [10]).1 with
    | nil =>
     rw [if_neg (fun h=>by rw [ho] at h; cases h.1)] at f2
     have c2:decide ((0:Int)<(((cut w [10]).1.length:Nat):Int))=false:=by rw [ho]; rfl
     clear ho
     simp only [b_rspk_0,chgN,h1,c1,c2,phiRS_1,phiRS_2,rlineS,go_sem,reduceDiv,reduceMod,↓reduceIte,reduceSub,Nat.reduceLT,reduceAdd,reduceLeDiff,reduceCtorEq]
     (repeat' apply And.intro); all_goals first | omega | (rw [hal]; (first | omega | (simp only [lenOk,bytesOk]; omega))) | (first | omega | (simp only [lenOk,bytesOk,inI,IntKind.bits,List.length_append,Bs_len,List.length_cons,List.length_nil,List.length_map,List.length_take,List.length_drop,List.length_replicate]; omega)) | skip
     refine hR _ (acc ++ [((cut (cut w [10]).1 [32]).1,(cut (cut w [10]).1 [32]).2.1)],(cut w [10]).2.1) ⟨⟨k,by simp only; omega,f2⟩,by simp only [wExt_app]; simp only [wExt,List.map_cons,List.map_nil,List.sum_cons,List.sum_nil] at f3 ⊢; omega,by simp only [hal2]; omega⟩ (by simp only; omega) ?_
     simp only [hal2,List.map_append,List.map_cons,List.map_nil]; rfl
    | cons x l =>
     have c2:decide ((0:Int)<(((x :: l).length:Nat):Int))=true:=decide_eq_true (by rw [List.length_cons]; omega)
     have hat:at8 (x :: l) 0=((x.toNat:Nat):Int):=rfl
     have g1:decide (((x.toNat:Nat):Int)=32)=decide (x=32):=u8_eq x 32
     have hl0:0<(x :: l).length:=by simp
     have hpc:=pre_cons x l
     have htl:(x :: l).take (x :: l).length=x :: l:=List.take_length
     cases hx:decide (x=32) with
     | false =>
      rw [ho,if_neg (fun h=>by rw [hpc,hx] at h; cases h.1),← ho] at f2
      rw [← ho] at c2 hat hl0 htl
      simp only [b_rspk_0,chgN,h1,c1,c2,hat,g1,hx,phiRS_1,phiRS_2,rlineS,go_sem,reduceDiv,reduceMod,↓reduceIte,reduceSub,Nat.reduceLT,reduceAdd,reduceLeDiff,reduceCtorEq,Int.reduceLE,Int.reduceToNat]
      (repeat' apply And.intro); all_goals first | omega | (rw [hal]; (first | omega | (simp only [lenOk,bytesOk]; omega))) | (first | omega | (simp only [lenOk,bytesOk,inI,IntKind.bits,List.length_append,Bs_len,List.length_cons,List.length_nil,List.length_map,List.length_take,List.length_drop,List.length_replicate]; omega)) | skip
      refine hR _ (acc ++ [((cut (cut w [10]).1 [32]).1,(cut (cut w [10]).1 [32]).2.1)],(cut w [10]).2.1) ⟨⟨k,by simp only; omega,f2⟩,by simp only [wExt_app]; simp only [wExt,List.map_cons,List.map_nil,List.sum_cons,List.sum_nil] at f3 ⊢; omega,by simp only [hal2]; omega⟩ (by simp only; omega) ?_
      simp only [hal2,List.map_append,List.map_cons,List.map_nil]; rfl
     | true =>
      rw [ho,if_pos ⟨by rw [hpc,hx],hacc⟩,← ho] at f2
      rw [← ho] at c2 hat hl0 htl
      have e2:((acc.length:Int) - 1).toNat=acc.length - 1:=by omega
      have hget2:=getD_map exV acc ([],[]) (AV.agg [(1,AV.str []),(1,AV.str [])]) (show acc.length - 1<acc.length by omega)
      have hga2:acc.getD (acc.length - 1) ([],[])=acc[acc.length - 1]'(by omega):=by simp [List.getD_eq_getElem?_getD,List.getElem?_eq_getElem (show acc.length - 1<acc.length by omega)]
      have hmw:=mem_w acc (acc.getD (acc.length - 1) ([],[])) (by rw [hga2]; exact List.getElem_mem _)
      obtain ⟨v1,v2⟩:=cont1_wx acc ((cut w [10]).1.drop 1) hacc
      rw [List.length_drop] at v1
      simp only [b_rspk_0,chgN,h1,c1,c2,hat,g1,hx,e2,hget2,exV,htl,phiRS_1,rlineS,go_sem,reduceDiv,reduceMod,↓reduceIte,reduceSub,Nat.reduceLT,reduceAdd,reduceLeDiff,reduceCtorEq,Int.reduceLE,Int.reduceToNat]
      (repeat' apply And.intro); all_goals first | omega | (rw [hal]; (first | omega | (simp only [lenOk,bytesOk,inI,IntKind.bits,List.length_append,Bs_len,List.length_cons,List.length_nil,List.length_map,List.length_take,List.length_drop,List.length_replicate]; omega))) | (first | omega | (simp only [lenOk,List.length_append,List.length_cons,List.length_nil,List.length_drop]; omega)) | skip
      refine hR _ (cont1 acc ((cut w [10]).1.drop 1),(cut w [10]).2.1) ⟨⟨k,by simp only; omega,f2⟩,by simp only; omega,by simp only; omega⟩ (by simp only; omega) ?_
      simp only [v2]
      unfold cont1
      rw [List.map_set]
      rfl
  | true =>
   have h1' := of_decide_eq_true h1
   subst h1'
   rw [spG_nil] at f2
   rw [← f2] at hsp
   have hb:spkB s d=(rightH (spkC s d) && decide (wordsT (spkC s d)=s)):=rfl
   have hel:2 * acc.length≤wExt acc:=by
    clear f2 f3 f4 hR f1 hsp hb
    induction acc with
    | nil=>exact Nat.le_refl _
    | cons x acc ih=>simp only [wExt,List.map_cons,List.sum_cons,List.length_cons] at ih ⊢; omega
   have hem:=mem_w acc
   have hfx:=flat_ex acc
   simp only [List.length_nil] at f3 f4
   have l1:=Lib.itoa_length_le t b4.1 b4.2
   have l2:=Lib.itoa_length_le z b5.1 b5.2
   have hwl:(wordsT ⟨[],u,t,z,acc,[],[]⟩).length≤1000000:=by
    unfold wordsT; simp only [List.length_append,List.length_cons]; omega
   have hwe:wordsT ⟨zr20,u,t,z,acc,[],d⟩=wordsT ⟨[],u,t,z,acc,[],[]⟩:=rfl
   rw [hsp,hwe] at hb
   rw [hsp]
   cases hr:rightH ⟨zr20,u,t,z,acc,[],d⟩ with
   | false =>
    rw [hr,Bool.false_and] at hb
    rw [hb]
    simp only [b_rspk_0,t_rspk_0,r_rspk,chgN,phiRS_4,rgrightS,unV_U,unEx_map,List.length_map,List.map_nil,hr,go_sem,reduceDiv,reduceMod,↓reduceIte,reduceSub,Nat.reduceLT,reduceAdd,reduceLeDiff,reduceCtorEq]
    (repeat' apply And.intro); all_goals first | omega | rfl | trivial | exact .inl trivial | exact .inr trivial | exact hwl | exact b4.1 | exact b4.2 | exact b5.1 | exact b5.2 | exact fun x hx=>(by have:=hem x hx; omega) | (intro f hf; cases hf; done) | skip
   | true =>
    rw [hr,Bool.true_and] at hb
    rw [hb]
    simp only [b_rspk_0,t_rspk_0,r_rspk,chgN,phiRS_4,phiRS_5,rgrightS,twordsS,wordsOk,unV_U,unEx_map,List.length_map,List.map_nil,hr,go_sem,reduceDiv,reduceMod,↓reduceIte,reduceSub,Nat.reduceLT,reduceAdd,reduceLeDiff,reduceCtorEq]
    (repeat' apply And.intro); all_goals first | omega | rfl | trivial | exact .inl trivial | exact .inr trivial | exact hwl | exact b4.1 | exact b4.2 | exact b5.1 | exact b5.2 | exact fun x hx=>(by have:=hem x hx; omega) | (intro f hf; cases hf; done) | skip
 ·cases hs
theorem rspk_ok:FnOk Tryz.prog 34 tspkS:=rspk0_ok.freezeD fun xs hp r' hs hp' => by
 unfold tspkS at hs
 split at hs
 ·injection hs with hs; subst hs
  refine ⟨rfl,_,rfl,hp',rfl,?_,rfl,rfl⟩
  simp [fzV,fzD,chgZ]
  exact ⟨rfl,rfl⟩
 ·cases hs
def wLin (ls:List (List UInt8)):Nat:=(ls.map fun l=>l.length+2).sum
theorem wLin_drop (ls:List (List UInt8)) (n:Nat):wLin (ls.drop n)≤wLin ls:=by
 induction ls generalizing n with
 | nil=>simp
 | cons l ls ih =>
  cases n with
  | zero=>simp
  | succ n=>have:=ih n; simp only [List.drop_succ_cons,wLin,List.map_cons,List.sum_cons] at this ⊢; omega
theorem wLin_lines:∀ (s one:List UInt8),wLin (linesA one s)≤one.length+3 * s.length+2
 | [],one=>by simp [linesA,wLin]
 | c :: s,one=>by
  rw [linesA]; split
  ·have:=wLin_lines s []
   simp only [wLin,List.map_cons,List.sum_cons,List.length_cons,List.length_nil] at this ⊢; omega
  ·have:=wLin_lines s (one ++ [c])
   simp only [List.length_append,List.length_cons,List.length_nil] at this ⊢; omega
theorem cont1_w (acc:List ExL) (v:List UInt8) (h:acc≠[]):wExt (cont1 acc v)=wExt acc+v.length+1∧(cont1 acc v).length=acc.length:=by
 obtain ⟨a,x,rfl⟩:∃ a x,acc=a ++ [x]:=⟨acc.dropLast,acc.getLast h,(List.dropLast_concat_getLast h).symm⟩
 obtain ⟨k,w⟩:=x
 rw [cont1_app,wExt_app,wExt_app]
 have e:∀ u:List UInt8,wExt [(k,u)]=k.length+u.length+2:=fun u=>by simp [wExt]
 rw [e,e]
 refine ⟨?_,?_⟩ <;>
 simp only [List.length_append,List.length_cons,List.length_nil]
 omega
theorem gExt_w:∀ (ls:List (List UInt8)) (acc:List ExL),wExt (gExt acc ls).1≤wExt acc+wLin ls∧(gExt acc ls).1.length≤acc.length+ls.length∧(gExt acc ls).2.length≤ls.length∧∃ n,(gExt acc ls).2=ls.drop n
 | [],acc=>⟨by simp [gExt],by simp [gExt],by simp [gExt],0,rfl⟩
 | l :: ls,acc=>by
  rw [gExt]
  split
  ·exact ⟨Nat.le_add_right _ _,Nat.le_add_right _ _,Nat.le_refl _,0,rfl⟩
  ·rename_i hl
   have hl1:1≤l.length:=by cases l with | nil=>exact absurd rfl hl | cons _ _=>simp
   split
   ·rename_i h
    obtain ⟨h1,h2,h3,n,h4⟩:=gExt_w ls (cont1 acc (l.drop 1))
    obtain ⟨h5,h6⟩:=cont1_w acc (l.drop 1) h.2
    rw [h5,List.length_drop] at h1
    rw [h6] at h2
    refine ⟨?_,by simp only [List.length_cons]; omega,by simp only [List.length_cons]; omega,n+1,h4⟩
    simp only [wLin,List.map_cons,List.sum_cons] at h1 ⊢; omega
   ·obtain ⟨h1,h2,h3,n,h4⟩:=gExt_w ls (acc ++ [((cut l [32]).1,(cut l [32]).2.1)])
    have hc:=cut_len2 l
    rw [wExt_app] at h1
    simp only [List.length_append,List.length_cons,List.length_nil] at h2
    refine ⟨?_,by simp only [List.length_cons]; omega,by simp only [List.length_cons]; omega,n+1,h4⟩
    simp only [wExt,wLin,List.map_cons,List.map_nil,List.sum_cons,List.sum_nil] at h1 ⊢; omega
where
 cut_len2 (l:List UInt8):(cut l [32]).1.length+(cut l [32]).2.1.length≤l.length:=by
  cases h:(cut l [32]).2.2 with
  | true =>
   have:=congrArg List.length (cut_t h)
   simp only [List.length_append,List.length_cons,List.length_nil] at this; omega
  | false =>
   by_cases hm:(32:UInt8)∈l
   ·obtain ⟨a,b,rfl,ha⟩:=mem_split hm
    rw [cut_1 ha] at h; cases h
   ·rw [cut_1n hm]; simp
open Go.Lib (index hasPrefix cut indexAny itoa decDigits)
theorem guessW_len (s:List UInt8):(guessW s).name.length≤s.length∧(guessW s).mail.length≤s.length∧(guessW s).zone.length≤s.length∧0≤(guessW s).time∧(guessW s).time<4611686018427387904:=by
 have hA1:=cutl1 s [60]
 have hA2:=cutl2 s [60]
 have hB1:=cutl1 (cut s [60]).2.1 [62]
 have hB2:=cutl2 (cut s [60]).2.1 [62]
 have hF:=frontL_len (cut (cut s [60]).2.1 [62]).2.1 [32]
 have hC2:=cutl2 (frontL (cut (cut s [60]).2.1 [62]).2.1 [32]) [32]
 have hd:=decN_lt (cut (frontL (cut (cut s [60]).2.1 [62]).2.1 [32]) [32]).1
 unfold guessW
 simp only [List.length_take]
 omega
end Go.Proofs.YtgaehhechonegaaGreatDoor
