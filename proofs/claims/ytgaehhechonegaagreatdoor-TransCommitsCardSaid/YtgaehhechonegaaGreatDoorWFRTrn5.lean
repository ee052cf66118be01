import Derived.Test.YtgaehhechonegaaGreatDoorWFRPar1
import Derived.Test.YtgaehhechonegaaGreatDoorWFLTrn1
import Derived.Test.YtgaehhechonegaaGreatDoorWLComCode
import Derived.Test.YtgaehhechonegaaGreatDoorTie
import Derived.Lay
import Derived.Stop.Joined
import Derived.Test.YtgaehhechonegaaGreatDoorCards
import Derived.Test.YtgaehhechonegaaGreatDoorWAMS
import Derived.SevenTiedAt
import Derived.ProofKit
import Derived.OpenShut
import Derived.ChangeOld
import Derived.Below
import Derived.Carry
import Derived.Test.YtgaehhechonegaaGreatDoorWLinLaw
import Derived.Test.YtgaehhechonegaaGreatDoorWFLChg1
open Nat (reduceDiv reduceMod reduceSub reduceAdd reduceLeDiff reduceEqDiff)
set_option linter.all false
namespace Go.Proofs.YtgaehhechonegaaGreatDoor
open Go.RowKit
open Go.Lib (index hasPrefix trimPrefix cut indexAny itoa)
noncomputable def rcomR (n:Nat) (x:ChgL) (pr:Prop):Option Ret:=if bk1 n x=true then some ⟨comZ 20 ((obF n).2 x),[],pr⟩
 else some ⟨.agg (comPs zr20 (.con (.slice none 0 0)) (hgWho x.time) (hgWho x.time) (.own 0 0) x.desc),[.row 65 2 0 [exV (hgW,wordsT x)]],pr⟩
noncomputable def rcomS0 (n:Nat):Spec:=fun xs hp=>match xs,hp with
 | [.agg [(20,.blob m),(1,.str u),(1,.int .i64 t),(1,.int .i64 z),(1,.sl ke es),(1,.sl kf fs),(1,.str d)]],[] =>
  rcomR n ⟨zr20,u,t,z,es.map unEx,[],d⟩ (argG m ke es kf fs∧comR n ⟨zr20,u,t,z,es.map unEx,[],d⟩)
 | _,_=>none
theorem rcomR_pre {n:Nat} {x:ChgL} {pr:Prop} {r:Ret} (h:rcomR n x pr=some r) (hr:r.pre):pr:=by
 unfold rcomR at h
 split at h <;> (injection h with h; subst h; exact hr)
theorem rcomR_f {n:Nat} {x:ChgL} (h:bk1 n x=false) (pr:Prop):rcomR n x pr=some ⟨.agg (comPs zr20 (.con (.slice none 0 0)) (hgWho x.time) (hgWho x.time) (.own 0 0) x.desc),[.row 65 2 0 [exV (hgW,wordsT x)]],pr⟩:=by
 unfold rcomR; rw [h]; rfl
set_option maxHeartbeats 8000000 in
set_option maxRecDepth 8000 in
theorem rcom_tail {Φ:Phi} (P4:Φ 25=some ([],twordsS)) {u:List UInt8} {t z:Int} {ke:Nat} {es:List ExL} {d:List UInt8} {pr:Prop} (q4:ke=2∨es.map exV=[]) (hel:es.length≤90000) (hwo:wordsOk ⟨[],u,t,z,es,[],[]⟩) :
  ZW Φ 0 k_rcom_3 (retQ2 r_rcom 0 ⟨.agg (comPs zr20 (.con (.slice none 0 0)) (hgWho t) (hgWho t) (.own 0 0) d),[.row 65 2 0 [exV (hgW,wordsT ⟨zr20,u,t,z,es,[],d⟩)]],pr⟩)
   (ofS ⟨[(1,.ref 0 0 0),(2,.ref 1 0 0)],[.cells 49 [(20,.blob (zr20.map U)),(1,.str u),(1,.int .i64 t),(1,.int .i64 z),(1,.sl ke (es.map exV)),(1,.con (.slice none 0 0)),(1,.str d)],
    .cells 28 [(20,.blob (List.replicate 20 (.int .u8 0))),(1,.con (.slice none 0 0)),(1,.str []),(1,.str []),(1,.int .i64 0),(1,.str []),(1,.str []),(1,.str []),(1,.int .i64 0),(1,.str []),(1,.con (.slice none 0 0)),(1,.str [])]]⟩):=by
 have hwr:wordsT ⟨[],u,t,z,es,[],[]⟩=wordsT ⟨zr20,u,t,z,es,[],d⟩:=rfl
 have hwoT:=eq_true hwo
 refine .fin ?_
 simp only [k_rcom_3,r_rcom,P4,twordsS,hwoT,hwr,unEx_map,exV,hgW,hgWho,comPs,List.length_map,go_sem,reduceDiv,reduceMod,↓reduceIte,reduceSub,Nat.reduceLT,reduceAdd,reduceLeDiff,reduceCtorEq]
 (repeat' apply And.intro)
 all_goals first | omega | rfl | trivial | exact q4 | exact .inl trivial | exact .inr trivial | (first | omega | (simp only [lenOk,bytesOk,inI,IntKind.bits,List.length_append,Bs_len,List.length_cons,List.length_nil,List.length_map,List.length_take,List.length_drop,List.length_replicate]; omega)) | skip
set_option maxHeartbeats 8000000 in
set_option maxRecDepth 8000 in
theorem rcom_step0 (n:Nat) (hB:FnOk Tryz.prog 16 (rchgP n)):FnOk Tryz.prog 22 (rcomS0 n):=by
 have hΦ:PhiOk Tryz.prog (phiL [(21,[],rownS),(40,[],rparZ),(16,[],rchgP n),(14,[],rgsameS),(25,[],twordsS)]):=phi_cons rown_ok (by kernel_rfl) (phi_cons rparZ_ok (by kernel_rfl) (phi_cons hB (by kernel_rfl) (phi_cons rgsame_ok (by kernel_rfl) (phi_cons rwords_ok (by kernel_rfl) phi_nil))))
 have P0:phiL [(21,[],rownS),(40,[],rparZ),(16,[],rchgP n),(14,[],rgsameS),(25,[],twordsS)] 21=some ([],rownS):=rfl
 have P1:phiL [(21,[],rownS),(40,[],rparZ),(16,[],rchgP n),(14,[],rgsameS),(25,[],twordsS)] 40=some ([],rparZ):=rfl
 have P2:phiL [(21,[],rownS),(40,[],rparZ),(16,[],rchgP n),(14,[],rgsameS),(25,[],twordsS)] 16=some ([],rchgP n):=rfl
 have P3:phiL [(21,[],rownS),(40,[],rparZ),(16,[],rchgP n),(14,[],rgsameS),(25,[],twordsS)] 14=some ([],rgsameS):=rfl
 have P4:phiL [(21,[],rownS),(40,[],rparZ),(16,[],rchgP n),(14,[],rgsameS),(25,[],twordsS)] 25=some ([],twordsS):=rfl
 generalize phiL [(21,[],rownS),(40,[],rparZ),(16,[],rchgP n),(14,[],rgsameS),(25,[],twordsS)]=Φ at hΦ P0 P1 P2 P3 P4
 refine fn_slimZ Tryz.func22 s_rcom hΦ ?_
 intro xs hp r hs hp'
 unfold rcomS0 at hs
 split at hs
 ·rename_i ma u t z ke es kf fs d
  obtain ⟨⟨q1,q2,q3,q4,q5⟩,r0,-,-,r3,r4,r5⟩:=rcomR_pre hs hp'
  generalize es.map unEx=es at *
  subst q2
  simp only at r5
  refine ⟨len_le (by kernel_rfl),?_⟩
  obtain ⟨hel,-⟩:=words_cnt r4.1
  simp only at hel
  obtain ⟨r6,r7⟩:=id r4
  simp only at r7
  have hrt:=(rightH_of r3).time
  have hrz:=(rightH_of r3).zone
  simp only at hrt hrz
  have hit:inI t:=by unfold inI; omega
  have hiz:inI z:=by unfold inI; omega
  have hzu:unV (List.replicate 20 (Value.int .u8 0))=zr20:=rfl
  have hwr:wordsT ⟨[],u,t,z,es,[],[]⟩=wordsT ⟨zr20,u,t,z,es,[],d⟩:=rfl
  have hwo:wordsOk ⟨[],u,t,z,es,[],[]⟩:=⟨by rw [hwr]; omega,hit,hiz⟩
  have htl:∀ pr,_:=fun pr=>rcom_tail (d:=d) (pr:=pr) P4 q4 hel hwo
  unfold c_rcom
  refine .step ?_
  simp only [go_sem,reduceDiv,reduceMod,↓reduceIte,reduceAdd]
  refine .step ?_
  simp only [P0,rownS,go_sem,reduceDiv,reduceMod,↓reduceIte,reduceSub,reduceAdd,reduceLeDiff,reduceCtorEq]
  refine .sub (.fin ?_)
  by_cases h1:es.length=1
  rotate_left
  ·have d1:decide ((es.length:Int)=1)=false:=decide_eq_false (by omega)
   have hn:bk1 n ⟨zr20,u,t,z,es,[],d⟩=false:=bk_not fun k v ho=>by simp only at ho; rw [len1_only h1] at ho; cases ho
   rw [rcomR_f hn] at hs
   injection hs with hs; subst hs
   simp only [d1,r_rcom,exV,List.length_map,go_sem,reduceDiv,reduceMod,↓reduceIte,reduceSub,reduceAdd,reduceLeDiff,reduceCtorEq]
   (repeat' apply And.intro); all_goals first | exact .kp [] [1,2] [0,1] _ rfl rfl rfl (htl _) | omega | rfl | trivial | exact .inl trivial | exact .inr trivial | (first | omega | (simp only [lenOk,bytesOk,inI,IntKind.bits,List.length_append,Bs_len,List.length_cons,List.length_nil,List.length_map,List.length_take,List.length_drop,List.length_replicate]; omega)) | skip
  obtain ⟨⟨k,v⟩,rfl⟩:∃ x,es=[x]:=by
   match es,h1 with
   | [x],_=>exact ⟨x,rfl⟩
  have hk:ke=2:=q4.resolve_right (by intro h; cases h)
  subst hk
  have hvn:v.length≤n:=by simpa [mz] using r5
  cases h2:decide (k=[103,105,116]) with
  | false =>
   have hn:bk1 n ⟨zr20,u,t,z,[(k,v)],[],d⟩=false:=bk_not fun k' v' ho=>by
    simp only [only1,Option.some.injEq,Prod.mk.injEq] at ho
    obtain ⟨rfl,rfl⟩:=ho
    exact fun hh=>of_decide_eq_false h2 hh.1
   rw [rcomR_f hn] at hs
   injection hs with hs; subst hs
   simp only [h2,r_rcom,exV,go_sem,reduceDiv,reduceMod,↓reduceIte,reduceSub,reduceAdd,reduceLeDiff,reduceCtorEq,Int.reduceLT,Int.reduceLE,Int.reduceToNat]
   (repeat' apply And.intro); all_goals first | exact .kp [] [1,2] [0,1] _ rfl rfl rfl (htl _) | omega | rfl | trivial | exact .inl trivial | exact .inr trivial | (first | omega | (simp only [lenOk,bytesOk,inI,IntKind.bits,List.length_append,Bs_len,List.length_cons,List.length_nil,List.length_map,List.length_take,List.length_drop,List.length_replicate]; omega)) | skip
  | true =>
   have hkk:k=gitW:=of_decide_eq_true h2
   subst hkk
   cases h3:parB11 v with
   | false =>
    have hn:bk1 n ⟨zr20,u,t,z,[(gitW,v)],[],d⟩=false:=bk_not fun k' v' ho=>by
     simp only [only1,Option.some.injEq,Prod.mk.injEq] at ho
     obtain ⟨rfl,rfl⟩:=ho
     intro hh
     rw [h3] at hh; cases hh.2.1
    have e1:∀ pr,rparZR v pr=some ⟨.tup [com0Z,.bool false],[],pr⟩:=fun pr=>by unfold rparZR; rw [h3]; rfl
    rw [rcomR_f hn] at hs
    injection hs with hs; subst hs
    simp only [h2,P1,rparZ,e1,com0Z,comPs,who0,r_rcom,exV,go_sem,reduceDiv,reduceMod,↓reduceIte,reduceSub,Nat.reduceLT,reduceAdd,reduceLeDiff,reduceCtorEq,Int.reduceLT,Int.reduceLE,Int.reduceToNat]
    (repeat' apply And.intro); all_goals first | exact .kp [] [1,2] [0,1] _ rfl rfl rfl (htl _) | omega | rfl | trivial | exact .inl trivial | exact .inr trivial | (first | omega | (simp only [lenOk,bytesOk,inI,IntKind.bits,List.length_append,Bs_len,List.length_cons,List.length_nil,List.length_map,List.length_take,List.length_drop,List.length_replicate]; omega)) | skip
   | true =>
    obtain ⟨p20,pp20⟩:=parC11_len v
    obtain ⟨c,hc⟩:∃ c,parC11 v=c:=⟨_,rfl⟩
    have e1:∀ pr,rparZR v pr=some ⟨.tup [comZ 20 c,.bool true],[],pr⟩:=fun pr=>by unfold rparZR; rw [h3,hc]; rfl
    obtain ⟨n1,n2⟩:=par_cnt h3
    have hnt:noTree (parC11 v)=(decide (c.tree=zr20) && decide (c.parents=[]) && decide (c.message=[])):=by rw [hc]; rfl
    have hrc:=(body_com h3).1
    have hbc:=(body_com h3).2
    have hmz:=par_mz h3
    rw [hc] at p20 n1 n2 hrc hbc hmz
    obtain ⟨ct,cp,⟨can,cam,cat,caz⟩,⟨ccn,ccm,cct,ccz⟩,ce,cm⟩:=c
    simp only at p20 n1 n2 e1 hnt hmz
    have hnot:noTree (parC11 v)=false→bk1 n ⟨zr20,u,t,z,[(gitW,v)],[],d⟩=false:=fun h=>bk_not fun k' v' ho=>by
     simp only [only1,Option.some.injEq,Prod.mk.injEq] at ho
     obtain ⟨rfl,rfl⟩:=ho
     intro hh
     rw [h] at hh; cases hh.2.2
    cases g1:decide (ct=zr20) with
    | false =>
     rw [g1,Bool.false_and,Bool.false_and] at hnt
     rw [rcomR_f (hnot hnt)] at hs
     injection hs with hs; subst hs
     simp only [h2,P1,rparZ,e1,comZ,comPs,unV_U,hzu,g1,r_rcom,exV,go_sem,reduceDiv,reduceMod,↓reduceIte,reduceSub,Nat.reduceLT,reduceAdd,reduceLeDiff,reduceCtorEq,Int.reduceLT,Int.reduceLE,Int.reduceToNat]
     (repeat' apply And.intro); all_goals first | exact .kp [] [1,2] [0,1] _ rfl rfl rfl (htl _) | omega | rfl | trivial | exact .inl trivial | exact .inr trivial | (first | omega | (simp only [lenOk,bytesOk,inI,IntKind.bits,List.length_append,Bs_len,List.length_cons,List.length_nil,List.length_map,List.length_take,List.length_drop,List.length_replicate]; omega)) | skip
    | true =>
    by_cases g2:cp=[]
    rotate_left
    ·have d2:decide ((cp.length:Int)=0)=false:=decide_eq_false fun h=>g2 (List.length_eq_zero_iff.1 (by omega))
     rw [decide_eq_false g2,Bool.and_false,Bool.false_and] at hnt
     rw [rcomR_f (hnot hnt)] at hs
     injection hs with hs; subst hs
     simp only [h2,P1,rparZ,e1,comZ,comPs,unV_U,hzu,g1,d2,r_rcom,exV,List.length_map,go_sem,reduceDiv,reduceMod,↓reduceIte,reduceSub,Nat.reduceLT,reduceAdd,reduceLeDiff,reduceCtorEq,Int.reduceLT,Int.reduceLE,Int.reduceToNat]
     (repeat' apply And.intro); all_goals first | exact .kp [] [1,2] [0,1] _ rfl rfl rfl (htl _) | omega | rfl | trivial | exact .inl trivial | exact .inr trivial | (first | omega | (simp only [lenOk,bytesOk,inI,IntKind.bits,List.length_append,Bs_len,List.length_cons,List.length_nil,List.length_map,List.length_take,List.length_drop,List.length_replicate]; omega)) | skip
    subst g2
    cases g3:decide (cm=[]) with
    | false =>
     rw [g3,Bool.and_false] at hnt
     rw [rcomR_f (hnot hnt)] at hs
     injection hs with hs; subst hs
     simp only [h2,P1,rparZ,e1,comZ,comPs,unV_U,hzu,g1,g3,r_rcom,exV,go_sem,reduceDiv,reduceMod,↓reduceIte,reduceSub,Nat.reduceLT,reduceAdd,reduceLeDiff,reduceCtorEq,Int.reduceLT,Int.reduceLE,Int.reduceToNat]
     (repeat' apply And.intro); all_goals first | exact .kp [] [1,2] [0,1] _ rfl rfl rfl (htl _) | omega | rfl | trivial | exact .inl trivial | exact .inr trivial | (first | omega | (simp only [lenOk,bytesOk,inI,IntKind.bits,List.length_append,Bs_len,List.length_cons,List.length_nil,List.length_map,List.length_take,List.length_drop,List.length_replicate]; omega)) | skip
    | true =>
    have g1' := of_decide_eq_true g1
    have g3' := of_decide_eq_true g3
    subst g1' g3'
    obtain ⟨n,rfl⟩:∃ j,n=j+1:=⟨n - 1,by omega⟩
    have hho:only1 [(gitW,v)]=some (gitW,v):=rfl
    have htold:=bk_told (n:=n) (x:=⟨zr20,u,t,z,[(gitW,v)],[],d⟩) hho
    have hunl:=bk_unlike (n:=n) (x:=⟨zr20,u,t,z,[(gitW,v)],[],d⟩) hho
    rw [hc] at htold hunl
    have hop:chgR n ⟨zr20,[],⟨can,cam,cat,caz⟩,⟨ccn,ccm,cct,ccz⟩,ce,d⟩:=⟨by omega,rfl,rfl,hrc,⟨by
     show (bodyC ⟨zr20,[],⟨can,cam,cat,caz⟩,⟨ccn,ccm,cct,ccz⟩,ce,[]⟩).length≤90000
     rw [hbc]; omega,r7⟩,by simp only; omega⟩
    have hofr:=of_right n hop.2.2.2.1
    have hofl:=ofx_len n hop.2.2.2.1
    simp only [withM] at htold hunl
    obtain ⟨o,ho⟩:∃ o,(obF n).1 ⟨zr20,[],⟨can,cam,cat,caz⟩,⟨ccn,ccm,cct,ccz⟩,ce,d⟩=o:=⟨_,rfl⟩
    rw [ho] at hofr hofl htold hunl
    obtain ⟨om,ou,ot,oz,oe,ofl,od⟩:=o
    obtain ⟨-,ho1,ho2⟩:=hofr
    simp only at ho1 ho2 hofl
    subst ho1 ho2
    have hopT:=eq_true hop
    have h20:(zr20:List UInt8).length=20:=rfl
    cases h4:sameH ⟨zr20,ou,ot,oz,oe,[],od⟩ ⟨zr20,u,t,z,[(gitW,v)],[],d⟩ with
    | true =>
     obtain ⟨ht1,ht2⟩:=htold ⟨trivial,h3,noTree_iff.2 ⟨rfl,rfl,rfl⟩,sameH_iff.1 h4⟩
     unfold rcomR at hs
     rw [if_pos ht2,ht1] at hs
     injection hs with hs; subst hs
     simp only [h2,h4,P1,rparZ,e1,h20,P2,P3,rchgP,rchgS,rgsameS,argS7,argC,hopT,ho,chgZ,comZ,comPs,unV_U,hzu,List.length_nil,List.map_cons,and_self,r_rcom,unEx_map,unEx_ag,exV,List.length_map,List.map_nil,go_sem,reduceDiv,reduceMod,↓reduceIte,reduceSub,Nat.reduceLT,reduceAdd,reduceLeDiff,reduceCtorEq,Int.reduceLT,Int.reduceLE,Int.reduceToNat]
     (repeat' apply And.intro); all_goals first | exact .kp [] [1,2] [0,1] _ rfl rfl rfl (htl _) | omega | rfl | trivial | exact .inl trivial | exact .inr trivial | (first | omega | (simp only [lenOk,bytesOk,inI,IntKind.bits,List.length_append,Bs_len,List.length_cons,List.length_nil,List.length_map,List.length_take,List.length_drop,List.length_replicate]; omega)) | skip
    | false =>
     have hn:=hunl fun e=>by rw [sameH_iff.2 e] at h4; cases h4
     rw [rcomR_f hn] at hs
     injection hs with hs; subst hs
     simp only [h2,h4,P1,rparZ,e1,h20,P2,P3,rchgP,rchgS,rgsameS,argS7,argC,hopT,ho,chgZ,comZ,comPs,unV_U,hzu,List.length_nil,List.map_cons,and_self,r_rcom,unEx_map,unEx_ag,exV,List.length_map,List.map_nil,go_sem,reduceDiv,reduceMod,↓reduceIte,reduceSub,Nat.reduceLT,reduceAdd,reduceLeDiff,reduceCtorEq,Int.reduceLT,Int.reduceLE,Int.reduceToNat]
     (repeat' apply And.intro); all_goals first | exact .kp [] [1,2] [0,1] _ rfl rfl rfl (htl _) | omega | rfl | trivial | exact .inl trivial | exact .inr trivial | (first | omega | (simp only [lenOk,bytesOk,inI,IntKind.bits,List.length_append,Bs_len,List.length_cons,List.length_nil,List.length_map,List.length_take,List.length_drop,List.length_replicate]; omega)) | skip
 ·cases hs
theorem rcom_step (n:Nat) (hB:FnOk Tryz.prog 16 (rchgP n)):FnOk Tryz.prog 22 (rcomS n):=(rcom_step0 n hB).freezeD fun xs hp r' hs hp' => by
 unfold rcomS at hs
 split at hs
 ·rename_i ma u t z ke es kf fs d
  injection hs with hs; subst hs
  have hpr:argG ma ke es kf fs∧comR n ⟨zr20,u,t,z,es.map unEx,[],d⟩:=hp'
  have hbr:=back_right n hpr.2.2.2.2.1
  cases hb:bk1 n ⟨zr20,u,t,z,es.map unEx,[],d⟩ with
  | true =>
   refine ⟨rfl,_,by show rcomR n _ _=_; unfold rcomR; rw [if_pos hb],hpr,rfl,?_,rfl,rfl⟩
   simp [fzV,fzD,comZ,comPs,bkK,hb,hbr]
  | false =>
   refine ⟨rfl,_,by show rcomR n _ _=_; rw [rcomR_f hb],hpr,rfl,?_,rfl,rfl⟩
   rw [bk_plain hb]
   simp [fzV,fzD,comZ,comPs,bkK,hb,wrapC]
 ·cases hs
theorem rob_ok:∀ n:Nat,FnOk Tryz.prog 16 (rchgS n)∧FnOk Tryz.prog 22 (rcomS n):=by
 intro n
 induction n with
 | zero=>exact ⟨rchg_step 0 (fun xs hp r h=>by cases h),rcom_step 0 (fun xs hp r h=>by cases h)⟩
 | succ n ih=>exact ⟨rchg_step (n+1) ih.2,rcom_step (n+1) ih.1⟩
end Go.Proofs.YtgaehhechonegaaGreatDoor
namespace Go.Proofs.YtgaehhechonegaaGreatDoor
open Go.RowKit
open Go.Lib (itoa)
noncomputable def tlchgS:Spec:=fun xs hp=>match xs,hp with
 | [.agg [(20,.blob t),(1,.sl kq ps),(1,.str an),(1,.str am),(1,.int .i64 at'),(1,.str az),(1,.str cn),(1,.str cm),(1,.int .i64 ct),(1,.str cz),(1,.sl ke es),(1,.str m)]],[] =>
  some ⟨.bool true,[],argC t kq ps ke es∧comB ⟨unV t,ps.map unId,⟨an,am,at',az⟩,⟨cn,cm,ct,cz⟩,es.map unEx,m⟩⟩
 | _,_=>none
noncomputable def phiTC:Phi:=phiL [(9,[],ltoZ),(10,[],lofZ),(11,[],tchgS 10000),(12,[],rrightS11),(16,[],rchgS 10000),(17,[],rsameS),(13,[],tknownS),(15,[],lgofZ),(14,[],rgsameS)]
theorem phiTC_ok:PhiOk Tryz.prog phiTC:=phi_cons ltoZ_ok (by kernel_rfl) (phi_cons lofZ_ok (by kernel_rfl) (phi_cons (tchg_ok 10000) (by kernel_rfl) (phi_cons rright11_ok (by kernel_rfl) (phi_cons (rob_ok 10000).1 (by kernel_rfl) (phi_cons rsame_ok (by kernel_rfl) (phi_cons tknown_ok (by kernel_rfl) (phi_cons lgofZ_ok (by kernel_rfl) (phi_cons rgsame_ok (by kernel_rfl) phi_nil))))))))
theorem phiTC_1:phiTC 9=some ([],ltoZ):=rfl
theorem phiTC_2:phiTC 10=some ([],lofZ):=rfl
theorem phiTC_3:phiTC 11=some ([],tchgS 10000):=rfl
theorem phiTC_4:phiTC 12=some ([],rrightS11):=rfl
theorem phiTC_5:phiTC 16=some ([],rchgS 10000):=rfl
theorem phiTC_6:phiTC 17=some ([],rsameS):=rfl
theorem phiTC_7:phiTC 13=some ([],tknownS):=rfl
theorem phiTC_8:phiTC 15=some ([],lgofZ):=rfl
theorem phiTC_9:phiTC 14=some ([],rgsameS):=rfl
theorem zr_rep:unV (List.replicate 20 (Value.int .u8 0))=zr20:=rfl
theorem zr_len:zr20.length=20:=rfl
set_option maxHeartbeats 8000000 in
set_option maxRecDepth 8000 in
theorem tlchg_ok:FnOk Tryz.prog 3 tlchgS:=by
 refine fn_slim2 Tryz.func3 s_tlchanges phiTC_ok ?_
 intro xs hp r hs hp'
 unfold tlchgS at hs
 split at hs
 ·injection hs with hs; subst hs
  rename_i t kq ps an am at' az cn cm ct cz ke es m
  obtain ⟨q0,p1⟩:=hp'
  refine ⟨len_le (by kernel_rfl),?_⟩
  generalize hc:(⟨unV t,ps.map unId,⟨an,am,at',az⟩,⟨cn,cm,ct,cz⟩,es.map unEx,m⟩:ComL)=c at *
  have hmx:maxC c:=by
   obtain ⟨h1,h2,h3,⟨h4,h5,h6,h7⟩,⟨h8,h9,h10,h11⟩,h12,h13,h14⟩:=p1
   exact ⟨h1,h2,h3,⟨h4,h5,h6⟩,⟨h8,h9,h10⟩,h12,h13,h14⟩
  obtain ⟨z1,z2⟩:=toC_size c p1
  obtain ⟨y1,y2⟩:=toC_sz c p1
  obtain ⟨h1,h2,h3,h4,h5,h6,h7,h8,h9,h10⟩:=toC_len c p1
  generalize hd:toC c=d at *
  obtain ⟨dt,dp,⟨dan,dam,dat,daz⟩,⟨dcn,dcm,dct,dcz⟩,de,dm⟩:=d
  simp only at h1 h2 h3 h4 h5 h6 h7 h8 h9 h10 y2
  have hex6:∀ x∈de,x.1.length≤1000000000000:=fun x hx=>by have:=h5 x hx; omega
  have hmT:=eq_true hmx
  have hpT:tchgPre 10000 ⟨dt,dp,⟨dan,dam,dat,daz⟩,⟨dcn,dcm,dct,dcz⟩,de,dm⟩=True:=eq_true ⟨z1,y1,y2⟩
  cases hr:rightC ⟨dt,dp,⟨dan,dam,dat,daz⟩,⟨dcn,dcm,dct,dcz⟩,de,dm⟩ with
  | false =>
   have e:∀ z pr,tchgR 10000 ⟨dt,dp,⟨dan,dam,dat,daz⟩,⟨dcn,dcm,dct,dcz⟩,de,dm⟩ z pr=some ⟨.tup [z,.int .i64 4],[],pr⟩:=fun z pr=>by
    unfold tchgR; rw [hr]; rfl
   simp only [c_tlchanges,hmT,hpT,r_tlchanges,phiTC_1,phiTC_2,phiTC_3,phiTC_4,phiTC_7,phiTC_8,phiTC_9,ltoZ,lofZ,tchgS,tchgSz,rrightS11,tknownS,lgofZ,rgsameS,hc,hd,comZ,comPs,zChgZ,chgF,argC,argG,argS7,unV_U,unId_map,unEx_map,sameH_self,zr_rep,zr_len,Bool.false_eq_true,List.length_map,List.map_nil,List.length_nil,e,hr,go_sem,reduceDiv,reduceMod,↓reduceIte,reduceEqDiff,reduceSub,Nat.reduceLT,reduceAdd,reduceLeDiff,reduceCtorEq]
   (repeat' apply And.intro); all_goals first | exact q0.1 | exact q0.2.1 | exact q0.2.2.1 | exact q0.2.2.2.1 | exact q0.2.2.2.2 | exact hmx.1 | exact .inl trivial | exact .inr trivial | exact .inr rfl | omega | exact h2 | exact hex6 | exact z1.1 | exact z1.2.1 | exact h9.1 | exact h9.2 | exact h10.1 | exact h10.2 | rfl | trivial | skip
  | true =>
   obtain ⟨o1,o2,o3⟩:=of_right 10000 (c:=⟨zr20,[],⟨dan,dam,dat,daz⟩,⟨dcn,dcm,dct,dcz⟩,de,dm⟩) hr
   have o4:=ofx_len 10000 (c:=⟨zr20,[],⟨dan,dam,dat,daz⟩,⟨dcn,dcm,dct,dcz⟩,de,dm⟩) hr
   have hcR:chgR 10000 ⟨zr20,[],⟨dan,dam,dat,daz⟩,⟨dcn,dcm,dct,dcz⟩,de,dm⟩=True:=eq_true ⟨Nat.le_refl _,rfl,rfl,hr,y1,y2⟩
   obtain ⟨⟨ym,yu,yt,yz,ye,yf,yd⟩,hy⟩:∃ y,(obF 10000).1 ⟨zr20,[],⟨dan,dam,dat,daz⟩,⟨dcn,dcm,dct,dcz⟩,de,dm⟩=y:=⟨_,rfl⟩
   rw [hy] at o1 o2 o3 o4
   simp only at o2 o3 o4
   subst o2; subst o3
   have e:∀ z pr,tchgR 10000 ⟨dt,dp,⟨dan,dam,dat,daz⟩,⟨dcn,dcm,dct,dcz⟩,de,dm⟩ z pr=some ⟨.tup [chgZ ⟨zr20,yu,yt,yz,ye,[],yd⟩,.int .i64 0],[],pr⟩:=fun z pr=>by
    unfold tchgR; rw [hr,if_pos rfl]; simp only [aloneC,hy]
   simp only [c_tlchanges,hmT,hpT,r_tlchanges,phiTC_1,phiTC_2,phiTC_3,phiTC_4,phiTC_5,phiTC_6,phiTC_7,phiTC_8,phiTC_9,ltoZ,lofZ,tchgS,tchgSz,rrightS11,rchgS,rsameS,tknownS,lgofZ,rgsameS,hc,hd,comZ,comPs,chgZ,zChgZ,chgF,argC,argG,argS7,unV_U,unId_map,unEx_map,sameC_self,sameH_self,zr_len,Bool.false_eq_true,List.length_map,List.map_nil,List.length_nil,e,hr,hy,hcR,go_sem,reduceDiv,reduceMod,↓reduceIte,reduceSub,Nat.reduceLT,reduceAdd,reduceLeDiff,reduceCtorEq]
   (repeat' apply And.intro); all_goals first | exact q0.1 | exact q0.2.1 | exact q0.2.2.1 | exact q0.2.2.2.1 | exact q0.2.2.2.2 | exact hmx.1 | exact .inl trivial | exact .inr trivial | exact .inr rfl | omega | exact h2 | exact hex6 | exact z1.1 | exact z1.2.1 | exact h9.1 | exact h9.2 | exact h10.1 | exact h10.2 | rfl | trivial | skip
 ·cases hs
theorem transChanges_walk {v:Value} (w:World) (w0:ComArg w v) (g:GlobOk w (fun b=>b<w.heap.size)) :
  Calls Tryz.prog 3 #[v] w fun e w' => e=.returned (.bool true)∧Below w.heap.size w w' := by
 obtain ⟨c,hv,hc⟩:=w0
 exact tlchg_ok.calls_bool (xs:=[comAV c]) rfl
  ⟨⟨by rw [unV_U],by rw [unId_map],by rw [unEx_map],.inl rfl,.inl rfl⟩,by rw [unV_U,unId_map,unEx_map]; exact hc⟩ rfl
  (args_cons (hv _) (args_nil g))
end Go.Proofs.YtgaehhechonegaaGreatDoor
namespace Go.Proofs.YtgaehhechonegaaGreatDoor
open Go.ChangeShapes Go.WideShapes Go.ChangeAt Go.RowKit
set_option linter.unusedVariables false
theorem transChanges_own:ownKnob Tryz.prog.godebug=none:=by kernel_rfl
theorem transChanges_laid:laidOutB Tryz.prog=true:=by kernel_rfl
set_option maxRecDepth 100000 in
theorem transChanges_lifted (os:Os) (started:os.Started) (H:Type) (enc:TypeId × Value→H) :
  ReturnsInHanded {} Tryz.checked os 3 .any (fun w args=>(Rows.transChangesSpec.pre enc Tryz.prog Tryz.f3 Rows.transChangesRow.domain false w args∧laidMetH Tryz.prog Rows.transChangesRow.laid w)∧sizedMet enc Tryz.prog Tryz.f3 (OpenSpec.ofChange Rows.transChangesSpec) false w args)
   (Rows.transChangesSpec.post enc Tryz.prog Tryz.f3 false true false false):=by
 refine returns_shaped (C:=Tryz.checked) (X:=fun w _=>laidMetH Tryz.prog Rows.transChangesRow.laid w) (fun _ _ _ hh h=>h.of_heap hh) transChanges_own started (by kernel_rfl) Tryz.func3
  (ChangeSpec.witness_shaped (enc:=enc) (C:=Tryz.checked) (os:=os) (X:=fun w _=>laidMetH Tryz.prog Rows.transChangesRow.laid w) false (World.laidAll Tryz.prog os Rows.transChangesRow.laid) #[.agg (List.append (α:=Value) (List.replicate 20 (.int .u8 0)) [.slice none 0 0,.string ⟨#[]⟩,.string ⟨#[]⟩,.int .i64 0,.string ⟨#[]⟩,.string ⟨#[]⟩,.string ⟨#[]⟩,.int .i64 0,.string ⟨#[]⟩,.slice none 0 0,.string ⟨#[]⟩]).toArray] 8 (World.laidAll_os _ _ _) (World.shaped_of_ZipB (by kernel_rfl) (by kernel_rfl)) (by kernel_rfl) (by kernel_rfl) (by kernel_rfl) (by rw [MakeChecks.laidMetH_plain _ _ _ (by kernel_rfl)]; exact laidMet_laidAll _ (by kernel_rfl) (by kernel_rfl))) ?_
 intro W base args ds gs before hval0 hW hL hsh
 have hval:∀ (j:Nat) t v,Tryz.f3.params[j]?=some t→args[j]?=some v→Value.okWide Tryz.prog W .any base t v:=hval0
 have hW' := hW
 obtain ⟨p,q,hA0,hV,rfl,hfz,hnd⟩:=hW
 have hA:DataW.TrodAll enc Tryz.prog W 0 (fun _=>true) true Tryz.f3.params.toList args.toList ds p:=hA0
 rw [Tryz.params3] at hA hval
 obtain ⟨v0,vs0,d0,ds0,p0,q0,hargs,rfl,rfl,h0,r0⟩:=trodAll_cons hA
 obtain ⟨rfl,rfl,rfl⟩:=trodAll_nil r0
 obtain rfl:args=#[v0]:=by cases args; simp_all
 obtain ⟨rfl,rfl⟩:=trodVars_none hV
 have g0:=h0
 have lt0:∀ x∈p0,x.block<W.heap.size:=by obtain ⟨m,hm⟩:=g0; exact DataW.trod_lt m _ _ _ hm
 have w0:ComArg W v0:=open_com Tryz.underlying28 rfl rfl rfl rfl rfl rfl rfl rfl rfl rfl rfl Tryz.underlying22 Tryz.underlying5 Tryz.underlying23 Tryz.underlying26 Tryz.underlying65 rfl rfl Tryz.underlying25 rfl rfl rfl rfl Tryz.underlying9 Tryz.underlying9 Tryz.underlying9 Tryz.underlying9 Tryz.underlying9 Tryz.underlying3 Tryz.underlying9 (by kernel_rfl) (by kernel_rfl) (by kernel_rfl) (by kernel_rfl) (by kernel_rfl) (by kernel_rfl) (by kernel_rfl) (by kernel_rfl) (by kernel_rfl) (by kernel_rfl) (by kernel_rfl) (by kernel_rfl) (by kernel_rfl) (by kernel_rfl) (hval 0 28 v0 rfl rfl) h0
 clear hA0 hval0
 refine (transChanges_walk W w0 (glob_of_laid hL hsh)).mono fun e W' ⟨he,bel⟩=>?_
 subst he
 exact ⟨_,rfl,_,_,_,[],_,[],hW',trodAll_mk1 (shut_bool Tryz.underlying4 _),(trodAll_cons_mk (Below.trod transChanges_laid (by kernel_rfl) (of_decide_eq_true (by kernel_rfl)) g0 bel lt0) trodAll_mk0),rfl,bel.frame _,fun h=>by cases h⟩
theorem transChanges_row:Rows.TransChangesSaid :=
 OpenClaim.holds_of_wide 3 Tryz.f3 rfl rfl rfl rfl rfl rfl rfl ⟨rfl,rfl,rfl,rfl,rfl⟩ rfl rfl rfl rfl rfl (by kernel_rfl) Tryz.func3 (by kernel_rfl)
  (of_decide_eq_true (by kernel_rfl)) (by unfold Func.isWrapper; first | (rw [if_pos (by decide +kernel)]; kernel_rfl) | (rw [if_neg (by decide +kernel)]; exact ⟨rfl,rfl⟩))
  (fun os started H enc _=>transChanges_lifted os started H enc)
theorem transChanges_proved : Rows.TransChangesCardSaid :=
 Claim7.holds_tied_plain_at .later [] [.data, .data, .data, .data, .sentinel, .sentinel, .pinned] true (true, "db646f1bcdefcf265fd592b8637b6a1e9f9abe049a2ea3499e45ded016ebd571") true
  transChanges_row (fun _ h => by cases h) (by kernel_rfl) (fun _ h => by cases h) transChanges_row_tie rfl ⟨rfl, rfl⟩ (by kernel_rfl) rfl
  (fun f fn hf hfn => by
   obtain rfl : f = 3 := Option.some.inj ((show Tryz.prog.funcNamed "tramway/tramwaylaw23.TransChanges" = some 3 by kernel_rfl).symm.trans hf) |>.symm
   obtain rfl : fn = Tryz.f3 := (Option.some.inj (Tryz.func3.symm.trans hfn)).symm
   exact ⟨by kernel_rfl, fun j t ht => by
    rw [Tryz.params3] at ht
    have hm : t ∈ [28] := by simpa using Array.mem_of_getElem? ht
    have hall : ([28].all fun u => !Tryz.prog.wantsStandIn u) = true := by kernel_rfl
    exact (show Tryz.prog.wantsStandIn t = false by simpa using List.all_eq_true.1 hall t hm)⟩)
  (by kernel_rfl)
end Go.Proofs.YtgaehhechonegaaGreatDoor
namespace Go.Proofs.YtgaehhechonegaaGreatDoor
open Go.RowKit Go.ChangeShapes Go.WideShapes Go.ChangeAt Go.Deep
def chgPs (m u:List UInt8) (t z:Int) (E F:AV) (d:List UInt8):List (Nat × AV):=[(20,.blob (m.map U)),(1,.str u),(1,.int .i64 t),(1,.int .i64 z),(1,E),(1,F),(1,.str d)]
def chgAV (c:ChgL):AV:=.agg (chgPs c.man c.user c.time c.zone (.sl 2 (c.extras.map exV)) (.sl 1 (c.files.map AV.str)) c.desc)
def chgAB (c:ChgL):Prop:=c.man.length=20∧c.user.length≤9223372036854775807∧inI c.time∧inI c.zone∧c.extras.length≤9223372036854775807∧(∀ x∈c.extras,x.1.length≤9223372036854775807∧x.2.length≤9223372036854775807) ∧
 c.files.length≤9223372036854775807∧(∀ f∈c.files,f.length≤9223372036854775807)∧c.desc.length≤9223372036854775807
def ChgArg (w:World) (v:Value):Prop:=∃ c:ChgL,(∀ ρ,Vl1 w (fun b=>b<w.heap.size) ρ (chgAV c) v)∧chgAB c
section
variable {H : Type} {enc : TypeId × Value → H} {P : Program} {w : World} {base : Nat} {spare : Nat → Bool} {held : Bool}
theorem trod_struct7 {t:TypeId} {f0 f1 f2 f3 f4 f5 f6:Field} {fuel:Nat} {cs:List Value} {x:DataW H × List MemPlace} (ht:P.underlying t=some (.struct #[f0,f1,f2,f3,f4,f5,f6])) (h:DataW.trod enc P w base spare held fuel t cs=some x) :
  ∃ y0 y1 y2 y3 y4 y5 y6 n,DataW.trod enc P w base spare held n f0.type ((cs.drop f0.offset).take (P.cellsOf f0.type))=some y0 ∧
   DataW.trod enc P w base spare held n f1.type ((cs.drop f1.offset).take (P.cellsOf f1.type))=some y1∧DataW.trod enc P w base spare held n f2.type ((cs.drop f2.offset).take (P.cellsOf f2.type))=some y2 ∧
   DataW.trod enc P w base spare held n f3.type ((cs.drop f3.offset).take (P.cellsOf f3.type))=some y3∧DataW.trod enc P w base spare held n f4.type ((cs.drop f4.offset).take (P.cellsOf f4.type))=some y4 ∧
   DataW.trod enc P w base spare held n f5.type ((cs.drop f5.offset).take (P.cellsOf f5.type))=some y5∧DataW.trod enc P w base spare held n f6.type ((cs.drop f6.offset).take (P.cellsOf f6.type))=some y6:=by
 obtain ⟨xs,n,_,rfl,hl,hlen,hf⟩:=DataW.trod_struct ht h
 match xs,hlen with
 | [y0,y1,y2,y3,y4,y5,y6],_=>exact ⟨y0,y1,y2,y3,y4,y5,y6,n,by simpa using hf 0 f0 rfl,by simpa using hf 1 f1 rfl,by simpa using hf 2 f2 rfl,by simpa using hf 3 f3 rfl,by simpa using hf 4 f4 rfl,by simpa using hf 5 f5 rfl,by simpa using hf 6 f6 rfl⟩
theorem trod_int1 {t:TypeId} {fuel:Nat} {cs:List Value} {x:DataW H × List MemPlace} (ht:P.underlying t=some (.int .i64)) (h:DataW.trod enc P w base spare held fuel t cs=some x):∃ i:Int,cs=[.int .i64 i]∧inI i:=by
 obtain ⟨i,e,_,wi⟩:=DataW.trod_int ht h
 refine ⟨i,e,?_⟩
 have h4:(Lit.int .i64 i).wf=true:=wi
 simp [Lit.wf,IntKind.min,IntKind.max,IntKind.signed,IntKind.bits] at h4
 unfold inI
 omega
theorem trod_str1 {t:TypeId} {fuel:Nat} {cs:List Value} {x:DataW H × List MemPlace} (ht:P.underlying t=some .string) (h:DataW.trod enc P w base spare held fuel t cs=some x):∃ l:List UInt8,cs=[.string ⟨l.toArray⟩]∧l.length≤9223372036854775807:=by
 obtain ⟨⟨⟨l⟩⟩,e,_,hl⟩:=DataW.trod_string ht h
 exact ⟨l,e,by simpa [ByteArray.size,maxLen] using hl⟩
theorem open_chg {r:Reach} {b0:Nat} {t ta e tx te tf ts:TypeId} {f0 f1 f2 f3 f4 f5 f6 h0 h1:Field} {v:Value} {d:DataW H} {ps:List MemPlace} (ht:P.underlying t=some (.struct #[f0,f1,f2,f3,f4,f5,f6]))
  (o0:f0.offset=0) (o1:f1.offset=20) (o2:f2.offset=21) (o3:f3.offset=22) (o4:f4.offset=23) (o5:f5.offset=24) (o6:f6.offset=25) (hta:f0.type=ta) (htx:f4.type=tx) (htf:f5.type=tf)
  (ha:P.underlying ta=some (.array 20 e)) (he:P.underlying e=some (.int .u8)) (hx:P.underlying tx=some (.slice te)) (hex:P.underlying te=some (.struct #[h0,h1])) (q0:h0.offset=0) (q1:h1.offset=1) (hf:P.underlying tf=some (.slice ts)) (hs:P.underlying ts=some .string)
  (s1:P.underlying f1.type=some .string) (s2:P.underlying f2.type=some (.int .i64)) (s3:P.underlying f3.type=some (.int .i64)) (s6:P.underlying f6.type=some .string) (u0:P.underlying h0.type=some .string) (u1:P.underlying h1.type=some .string)
  (hce:P.cellsOf e=1) (hca:P.cellsOf ta=20) (hcx:P.cellsOf te=2) (hcs:P.cellsOf ts=1) (hct:P.cellsOf t=26) (d1:P.cellsOf f1.type=1) (d2:P.cellsOf f2.type=1) (d3:P.cellsOf f3.type=1) (d4:P.cellsOf tx=1) (d5:P.cellsOf tf=1) (d6:P.cellsOf f6.type=1)
  (b0' : P.cellsOf h0.type=1) (b1' : P.cellsOf h1.type=1)
  (hval:Value.okWide P w r b0 t v) (hd:DataW.Trod enc P w base spare held t v d ps):ChgArg w v:=by
 simp only [Value.okWide,ht] at hval
 obtain ⟨cs,rfl,z2,_⟩:=hval
 rw [hct] at z2
 obtain ⟨fuel,hf0⟩:=hd
 obtain ⟨y0,y1,y2,y3,y4,y5,y6,n,k0,k1,k2,k3,k4,k5,k6⟩:=trod_struct7 ht hf0
 simp only [Value.cells] at k0 k1 k2 k3 k4 k5 k6
 obtain ⟨c⟩:=cs
 simp only at z2 k0 k1 k2 k3 k4 k5 k6
 have hc:c.length=26:=by simpa using z2
 rw [o0,hta,hca] at k0
 rw [o1,d1] at k1
 rw [o2,d2] at k2
 rw [o3,d3] at k3
 rw [o4,htx,d4] at k4
 rw [o5,htf,d5] at k5
 rw [o6,d6] at k6
 obtain ⟨o,e0,l0⟩:=trod_id ha he hce hca k0
 obtain ⟨us,e1,l1⟩:=trod_str1 s1 k1
 obtain ⟨i2,e2,l2⟩:=trod_int1 s2 k2
 obtain ⟨i3,e3,l3⟩:=trod_int1 s3 k3
 obtain ⟨ds,e6,l6⟩:=trod_str1 s6 k6
 obtain ⟨v4,xl,e4,j4,n4,m4⟩:=open_sl (S:=fun b=>b<w.heap.size) (ρ:=rho0) (fun _ h=>h) hx hcx (by decide) exV (fun a=>a.1.length≤9223372036854775807∧a.2.length≤9223372036854775807) (fun fuel cs x h=>trod_ex hex q0 q1 u0 u1 b0' b1' hcx h) k4
 obtain ⟨v5,fl,e5,j5,n5,m5⟩:=open_sl (S:=fun b=>b<w.heap.size) (ρ:=rho0) (fun _ h=>h) hf hcs (by decide) AV.str (fun a=>a.length≤9223372036854775807) (fun fuel cs x h=>by
  obtain ⟨l,rfl,hl⟩:=trod_str1 hs h
  exact ⟨l,.str l,rfl,hl⟩) k5
 have hsp:c=o.map U ++ ([.string ⟨us.toArray⟩] ++ ([.int .i64 i2] ++ ([.int .i64 i3] ++ ([v4] ++ ([v5] ++ [.string ⟨ds.toArray⟩]))))):=by
  rw [← e0,← e1,← e2,← e3,← e4,← e5,← e6]
  conv=>lhs; rw [← List.drop_zero (l:=c),drop_split c 0 20,Nat.zero_add,drop_split c 20 1,drop_split c 21 1,drop_split c 22 1,drop_split c 23 1,drop_split c 24 1,drop_split c 25 1,List.drop_of_length_le (i:=25+1) (by omega)]
  simp
 subst hsp
 refine ⟨⟨o,us,i2,i3,xl,fl,ds⟩,fun ρ=>?_,l0,l1,l2,l3,n4,m4,n5,m5,l6⟩
 have g4:Cs w (fun b=>b<w.heap.size) ρ (.sl 2 (xl.map exV)) [v4]:=j4.ext (fun _ _=>rfl) (fun _ h=>h) (fun _ _ _ h=>by cases h)
 have g5:Cs w (fun b=>b<w.heap.size) ρ (.sl 1 (fl.map AV.str)) [v5]:=j5.ext (fun _ _=>rfl) (fun _ h=>h) (fun _ _ _ h=>by cases h)
 refine .inr ⟨_,?_,rfl⟩
 exact Css.cs ⟨o.map U,_,rfl,by simpa using l0,.blob _ (fun u hu=>by obtain ⟨x,_,rfl⟩:=List.mem_map.1 hu; rfl),[.string ⟨us.toArray⟩],_,rfl,rfl,.str us,[.int .i64 i2],_,rfl,rfl,.int .i64 i2,[.int .i64 i3],_,rfl,rfl,.int .i64 i3,
  [v4],_,rfl,rfl,g4,[v5],_,rfl,rfl,g5,[.string ⟨ds.toArray⟩],[],rfl,rfl,.str ds,rfl⟩
end
end Go.Proofs.YtgaehhechonegaaGreatDoor
namespace Go.Proofs.YtgaehhechonegaaGreatDoor
open Go.RowKit
open Go.Lib (itoa)
theorem toH_sz (c:ChgL) (h:chgB9 c):sizeH (ownH (toH c))∧szH (ownH (toH c))∧mz (toH c).extras≤10000:=by
 obtain ⟨⟨s1,s2,s3,s4,s5,s6,s7,s8,s9,s10,s11⟩,-⟩:=toH_size c h
 obtain ⟨h1,h2,h3,h4,h5,h6,h7,h8,h9⟩:=h
 have u1:(toH c).user.length≤200:=by simp only [toH,List.length_take]; omega
 have d1:(toH c).desc.length≤500:=by simp only [toH,List.length_take]; omega
 have e1:(toH c).extras.length≤20:=by simp only [toH,List.length_map,List.length_take]; omega
 have e2:∀ x∈(toH c).extras,x.1.length≤200∧x.2.length≤200:=by
  intro x hx
  obtain ⟨y,_,rfl⟩:=List.mem_map.1 hx
  simp only [exCut,List.length_take]; omega
 generalize toH c=d at *
 have l1:=Lib.itoa_length_le d.time s10.1 s10.2
 have l2:=Lib.itoa_length_le d.zone s11.1 s11.2
 have hw:=wExt_le d.extras e2
 have hf:=flat_ex d.extras
 have hm:=mz_le d.extras 200 fun x hx=>(e2 x hx).2
 have hw2:402 * d.extras.length≤402 * 20:=Nat.mul_le_mul_left _ e1
 have hm2:200 * d.extras.length≤200 * 20:=Nat.mul_le_mul_left _ e1
 refine ⟨⟨rfl,s2,s3,by show (0:Nat)≤_; omega,s5,fun f hf=>(by cases hf),s7,by show (0:Nat)≤_; omega,s9,s10,s11⟩,⟨?_,by show d.desc.length≤90000; omega⟩,by omega⟩
 unfold wordsT ownH
 simp only [List.length_append,List.length_cons]
 omega
noncomputable def tlcomS:Spec:=fun xs hp=>match xs,hp with
 | [.agg [(20,.blob m),(1,.str u),(1,.int .i64 t),(1,.int .i64 z),(1,.sl ke es),(1,.sl kf fs),(1,.str d)]],[] =>
  some ⟨.bool true,[],argG m ke es kf fs∧chgB9 ⟨unV m,u,t,z,es.map unEx,fs.map unS,d⟩⟩
 | _,_=>none
noncomputable def phiTM:Phi:=phiL [(18,[],lgtoZ),(15,[],lgofZ),(19,[],tcomS 10000),(20,[],rgrightS),(22,[],rcomS 10000),(14,[],rgsameS),(13,[],tknownS),(10,[],lofZ),(17,[],rsameS),(21,[],rownS)]
theorem phiTM_ok:PhiOk Tryz.prog phiTM:=phi_cons lgtoZ_ok (by kernel_rfl) (phi_cons lgofZ_ok (by kernel_rfl) (phi_cons (tcom_ok 10000) (by kernel_rfl) (phi_cons rgright_ok (by kernel_rfl) (phi_cons (rob_ok 10000).2 (by kernel_rfl) (phi_cons rgsame_ok (by kernel_rfl) (phi_cons tknown_ok (by kernel_rfl) (phi_cons lofZ_ok (by kernel_rfl) (phi_cons rsame_ok (by kernel_rfl) (phi_cons rown_ok (by kernel_rfl) phi_nil)))))))))
theorem phiTM_1:phiTM 18=some ([],lgtoZ):=rfl
theorem phiTM_2:phiTM 15=some ([],lgofZ):=rfl
theorem phiTM_3:phiTM 19=some ([],tcomS 10000):=rfl
theorem phiTM_4:phiTM 20=some ([],rgrightS):=rfl
theorem phiTM_5:phiTM 22=some ([],rcomS 10000):=rfl
theorem phiTM_6:phiTM 14=some ([],rgsameS):=rfl
theorem phiTM_7:phiTM 13=some ([],tknownS):=rfl
theorem phiTM_8:phiTM 10=some ([],lofZ):=rfl
theorem phiTM_9:phiTM 17=some ([],rsameS):=rfl
theorem phiTM_10:phiTM 21=some ([],rownS):=rfl
set_option maxHeartbeats 8000000 in
set_option maxRecDepth 8000 in
theorem tlcom_ok:FnOk Tryz.prog 4 tlcomS:=by
 refine fn_slim2 Tryz.func4 s_tlcommits phiTM_ok ?_
 intro xs hp r hs hp'
 unfold tlcomS at hs
 split at hs
 ·injection hs with hs; subst hs
  rename_i m u t z ke es kf fs d
  obtain ⟨q0,p1⟩:=hp'
  refine ⟨len_le (by kernel_rfl),?_⟩
  generalize hc:(⟨unV m,u,t,z,es.map unEx,fs.map unS,d⟩:ChgL)=c at *
  have hmx:=max_of p1
  obtain ⟨z1,z2⟩:=toH_size c p1
  obtain ⟨y1,y2,y3⟩:=toH_sz c p1
  generalize hd:toH c=d at *
  obtain ⟨dm,du,dt,dz,de,df,dd⟩:=d
  obtain ⟨h1,h2,h3,h4,h5,h6,h7,h8,h9,h10,h11⟩:=z1
  simp only at h1 h2 h3 h4 h5 h6 h7 h8 h9 h10 h11 y3
  have hex:∀ x∈de,x.1.length≤1000000000:=fun x hx=>by have:=(h5 x hx).1; omega
  have hmT:=eq_true hmx
  have hpT:tcomPre 10000 ⟨dm,du,dt,dz,de,df,dd⟩=True:=eq_true ⟨h1,y1,y2,y3⟩
  cases hr:rightH ⟨zr20,du,dt,dz,de,[],dd⟩ with
  | false =>
   have e:∀ z pr,tcomR 10000 ⟨dm,du,dt,dz,de,df,dd⟩ z pr=some ⟨.tup [z,.int .i64 4],[],pr⟩:=fun z pr=>by
    unfold tcomR
    have:rightH (ownH ⟨dm,du,dt,dz,de,df,dd⟩)=false:=hr
    rw [this]; rfl
   simp only [c_tlcommits,hmT,hpT,r_tlcommits,phiTM_1,phiTM_2,phiTM_3,phiTM_4,phiTM_7,phiTM_8,phiTM_9,phiTM_10,lgtoZ,lgofZ,tcomS,tcomSz,rgrightS,tknownS,lofZ,rsameS,rownS,hc,hd,comZ,comPs,zComZ,who0,chgF,argC,argG,unV_U,unEx_map,unS_map,sameC_self,zr_rep,zr_len,Bool.false_eq_true,List.length_map,List.map_nil,List.length_nil,e,hr,go_sem,reduceDiv,reduceMod,↓reduceIte,reduceEqDiff,reduceSub,Nat.reduceLT,reduceAdd,reduceLeDiff,reduceCtorEq]
   (repeat' apply And.intro); all_goals first | exact q0.1 | exact q0.2.1 | exact q0.2.2.1 | exact q0.2.2.2.1 | exact q0.2.2.2.2 | exact h1 | exact hmx.1 | exact .inl trivial | exact .inr trivial | exact .inr rfl | omega | exact hex | exact h6 | rfl | trivial | (intro p hp; cases hp; done) | skip
  | true =>
   obtain ⟨o1,o2,o3⟩:=back_right 10000 (x:=⟨zr20,du,dt,dz,de,[],dd⟩) hr
   have o4:=bkx_len 10000 ⟨zr20,du,dt,dz,de,[],dd⟩
   have hcR:comR 10000 ⟨zr20,du,dt,dz,de,[],dd⟩=True:=eq_true ⟨Nat.le_refl _,rfl,rfl,hr,y2,y3⟩
   obtain ⟨⟨yt,yp,⟨yan,yam,yat,yaz⟩,⟨ycn,ycm,yct,ycz⟩,ye,ym⟩,hy⟩:∃ y,(obF 10000).2 ⟨zr20,du,dt,dz,de,[],dd⟩=y:=⟨_,rfl⟩
   rw [hy] at o1 o2 o3 o4
   simp only at o2 o3 o4
   subst o2; subst o3
   obtain ⟨kk,hk⟩:∃ k,bkK 10000 ⟨zr20,du,dt,dz,de,[],dd⟩=k:=⟨_,rfl⟩
   have e:∀ z pr,tcomR 10000 ⟨dm,du,dt,dz,de,df,dd⟩ z pr=some ⟨.tup [comZ kk ⟨zr20,[],⟨yan,yam,yat,yaz⟩,⟨ycn,ycm,yct,ycz⟩,ye,ym⟩,.int .i64 0],[],pr⟩:=fun z pr=>by
    unfold tcomR
    have h:ownH ⟨dm,du,dt,dz,de,df,dd⟩=⟨zr20,du,dt,dz,de,[],dd⟩:=rfl
    rw [h,hr,if_pos rfl,hy,hk]
   simp only [c_tlcommits,hmT,hpT,r_tlcommits,phiTM_1,phiTM_2,phiTM_3,phiTM_4,phiTM_5,phiTM_6,phiTM_7,phiTM_8,phiTM_9,phiTM_10,lgtoZ,lgofZ,tcomS,tcomSz,rgrightS,rcomS,rgsameS,tknownS,lofZ,rsameS,rownS,hc,hd,comZ,comPs,zComZ,who0,chgF,argC,argG,argS7,unV_U,unEx_map,unS_map,sameC_self,sameH_self,zr_len,Bool.false_eq_true,List.length_map,List.map_nil,List.length_nil,e,hr,hy,hk,hcR,go_sem,reduceDiv,reduceMod,↓reduceIte,reduceSub,Nat.reduceLT,reduceAdd,reduceLeDiff,reduceCtorEq]
   (repeat' apply And.intro); all_goals first | exact q0.1 | exact q0.2.1 | exact q0.2.2.1 | exact q0.2.2.2.1 | exact q0.2.2.2.2 | exact h1 | exact hmx.1 | exact .inl trivial | exact .inr trivial | exact .inr rfl | omega | exact hex | exact h6 | rfl | trivial | (intro p hp; cases hp; done) | skip
 ·cases hs
theorem transCommits_walk {v:Value} (w:World) (w0:ChgArg w v) (g:GlobOk w (fun b=>b<w.heap.size)) :
  Calls Tryz.prog 4 #[v] w fun e w' => e=.returned (.bool true)∧Below w.heap.size w w' := by
 obtain ⟨c,hv,hc⟩:=w0
 exact tlcom_ok.calls_bool (xs:=[chgAV c]) rfl
  ⟨⟨by rw [unV_U],by rw [unEx_map],by rw [unS_map],.inl rfl,rfl⟩,by rw [unV_U,unEx_map,unS_map]; exact hc⟩ rfl
  (args_cons (hv _) (args_nil g))
end Go.Proofs.YtgaehhechonegaaGreatDoor
namespace Go.Proofs.YtgaehhechonegaaGreatDoor
open Go.ChangeShapes Go.WideShapes Go.ChangeAt Go.RowKit
set_option linter.unusedVariables false
theorem transCommits_own:ownKnob Tryz.prog.godebug=none:=by kernel_rfl
theorem transCommits_laid:laidOutB Tryz.prog=true:=by kernel_rfl
set_option maxRecDepth 100000 in
theorem transCommits_lifted (os:Os) (started:os.Started) (H:Type) (enc:TypeId × Value→H) :
  ReturnsInHanded {} Tryz.checked os 4 .any (fun w args=>(Rows.transCommitsSpec.pre enc Tryz.prog Tryz.f4 Rows.transCommitsRow.domain false w args∧laidMetH Tryz.prog Rows.transCommitsRow.laid w)∧sizedMet enc Tryz.prog Tryz.f4 (OpenSpec.ofChange Rows.transCommitsSpec) false w args)
   (Rows.transCommitsSpec.post enc Tryz.prog Tryz.f4 false true false false):=by
 refine returns_shaped (C:=Tryz.checked) (X:=fun w _=>laidMetH Tryz.prog Rows.transCommitsRow.laid w) (fun _ _ _ hh h=>h.of_heap hh) transCommits_own started (by kernel_rfl) Tryz.func4
  (ChangeSpec.witness_shaped (enc:=enc) (C:=Tryz.checked) (os:=os) (X:=fun w _=>laidMetH Tryz.prog Rows.transCommitsRow.laid w) false (World.laidAll Tryz.prog os Rows.transCommitsRow.laid) #[.agg (List.append (α:=Value) (List.replicate 20 (.int .u8 0)) [.string ⟨#[]⟩,.int .i64 0,.int .i64 0,.slice none 0 0,.slice none 0 0,.string ⟨#[]⟩]).toArray] 8 (World.laidAll_os _ _ _) (World.shaped_of_ZipB (by kernel_rfl) (by kernel_rfl)) (by kernel_rfl) (by kernel_rfl) (by kernel_rfl) (by rw [MakeChecks.laidMetH_plain _ _ _ (by kernel_rfl)]; exact laidMet_laidAll _ (by kernel_rfl) (by kernel_rfl))) ?_
 intro W base args ds gs before hval0 hW hL hsh
 have hval:∀ (j:Nat) t v,Tryz.f4.params[j]?=some t→args[j]?=some v→Value.okWide Tryz.prog W .any base t v:=hval0
 have hW' := hW
 obtain ⟨p,q,hA0,hV,rfl,hfz,hnd⟩:=hW
 have hA:DataW.TrodAll enc Tryz.prog W 0 (fun _=>true) true Tryz.f4.params.toList args.toList ds p:=hA0
 rw [Tryz.params4] at hA hval
 obtain ⟨v0,vs0,d0,ds0,p0,q0,hargs,rfl,rfl,h0,r0⟩:=trodAll_cons hA
 obtain ⟨rfl,rfl,rfl⟩:=trodAll_nil r0
 obtain rfl:args=#[v0]:=by cases args; simp_all
 obtain ⟨rfl,rfl⟩:=trodVars_none hV
 have g0:=h0
 have lt0:∀ x∈p0,x.block<W.heap.size:=by obtain ⟨m,hm⟩:=g0; exact DataW.trod_lt m _ _ _ hm
 have w0:ChgArg W v0:=open_chg Tryz.underlying49 rfl rfl rfl rfl rfl rfl rfl rfl rfl rfl Tryz.underlying22 Tryz.underlying5 Tryz.underlying47 Tryz.underlying63 rfl rfl Tryz.underlying38 Tryz.underlying9 Tryz.underlying9 Tryz.underlying3 Tryz.underlying3 Tryz.underlying9 Tryz.underlying9 Tryz.underlying9 (by kernel_rfl) (by kernel_rfl) (by kernel_rfl) (by kernel_rfl) (by kernel_rfl) (by kernel_rfl) (by kernel_rfl) (by kernel_rfl) (by kernel_rfl) (by kernel_rfl) (by kernel_rfl) (by kernel_rfl) (by kernel_rfl) (hval 0 49 v0 rfl rfl) h0
 clear hA0 hval0
 refine (transCommits_walk W w0 (glob_of_laid hL hsh)).mono fun e W' ⟨he,bel⟩=>?_
 subst he
 exact ⟨_,rfl,_,_,_,[],_,[],hW',trodAll_mk1 (shut_bool Tryz.underlying4 _),(trodAll_cons_mk (Below.trod transCommits_laid (by kernel_rfl) (of_decide_eq_true (by kernel_rfl)) g0 bel lt0) trodAll_mk0),rfl,bel.frame _,fun h=>by cases h⟩
theorem transCommits_row:Rows.TransCommitsSaid :=
 OpenClaim.holds_of_wide 4 Tryz.f4 rfl rfl rfl rfl rfl rfl rfl ⟨rfl,rfl,rfl,rfl,rfl⟩ rfl rfl rfl rfl rfl (by kernel_rfl) Tryz.func4 (by kernel_rfl)
  (of_decide_eq_true (by kernel_rfl)) (by unfold Func.isWrapper; first | (rw [if_pos (by decide +kernel)]; kernel_rfl) | (rw [if_neg (by decide +kernel)]; exact ⟨rfl,rfl⟩))
  (fun os started H enc _=>transCommits_lifted os started H enc)
theorem transCommits_proved : Rows.TransCommitsCardSaid :=
 Claim7.holds_tied_plain_at .later [] [.data, .data, .data, .data, .sentinel, .sentinel, .pinned] true (true, "db646f1bcdefcf265fd592b8637b6a1e9f9abe049a2ea3499e45ded016ebd571") true
  transCommits_row (fun _ h => by cases h) (by kernel_rfl) (fun _ h => by cases h) transCommits_row_tie rfl ⟨rfl, rfl⟩ (by kernel_rfl) rfl
  (fun f fn hf hfn => by
   obtain rfl : f = 4 := Option.some.inj ((show Tryz.prog.funcNamed "tramway/tramwaylaw23.TransCommits" = some 4 by kernel_rfl).symm.trans hf) |>.symm
   obtain rfl : fn = Tryz.f4 := (Option.some.inj (Tryz.func4.symm.trans hfn)).symm
   exact ⟨by kernel_rfl, fun j t ht => by
    rw [Tryz.params4] at ht
    have hm : t ∈ [49] := by simpa using Array.mem_of_getElem? ht
    have hall : ([49].all fun u => !Tryz.prog.wantsStandIn u) = true := by kernel_rfl
    exact (show Tryz.prog.wantsStandIn t = false by simpa using List.all_eq_true.1 hall t hm)⟩)
  (by kernel_rfl)
end Go.Proofs.YtgaehhechonegaaGreatDoor
