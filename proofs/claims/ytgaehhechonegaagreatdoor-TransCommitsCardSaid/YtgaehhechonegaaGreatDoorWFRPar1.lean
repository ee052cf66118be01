import Derived.Test.YtgaehhechonegaaGreatDoorWFRTrn1
import Derived.Test.YtgaehhechonegaaGreatDoorWFLTrn1
import Derived.Test.YtgaehhechonegaaGreatDoorWLinLaw
open Nat (reduceDiv reduceMod reduceSub reduceAdd reduceLeDiff reduceEqDiff)
set_option linter.all false
namespace Go.Proofs.YtgaehhechonegaaGreatDoor
open Go.RowKit
open Go.Lib (index hasPrefix cut indexAny itoa)
noncomputable def rparR (c:ComL) (ok:Bool) (pr:Prop):Option Ret:=if ok=true then
  some ⟨.tup [.agg (comPs c.tree (.own 0 c.parents.length) c.author c.committer (.own 1 c.extras.length) c.message),.bool true],[.row 22 20 c.parents.length (c.parents.map idAV),.row 65 2 c.extras.length (c.extras.map exV)],pr⟩
 else some ⟨.tup [.agg com0,.bool false],[],pr⟩
noncomputable def rparS:Spec:=fun xs hp=>match xs,hp with
 | [.str s],[]=>rparR (guessC s) (rightC (guessC s) && decide (bodyC (guessC s)=s)) (s.length≤10000)
 | _,_=>none
theorem rparR_pre {c:ComL} {ok:Bool} {pr:Prop} {r:Ret} (h:rparR c ok pr=some r) (hr:r.pre):pr:=by
 unfold rparR at h
 split at h <;> (injection h with h; subst h; exact hr)
noncomputable def phiRpar:Phi:=phiL [(71,[],rfrontS),(70,[],rparseS),(72,[],rguessS),(73,[],rcutS),(12,[],rrightS11),(24,[],rprnS),(69,[],rlinesS)]
theorem phiRpar_ok:PhiOk Tryz.prog phiRpar:=phi_cons rfront_ok (by kernel_rfl) (phi_cons rparse_ok (by kernel_rfl) (phi_cons rguess_ok (by kernel_rfl) (phi_cons rcut_ok (by kernel_rfl) (phi_cons rright11_ok (by kernel_rfl) (phi_cons rprn_ok (by kernel_rfl) (phi_cons rlines_ok (by kernel_rfl) phi_nil))))))
theorem phiRpar_1:phiRpar 71=some ([],rfrontS):=rfl
theorem phiRpar_2:phiRpar 70=some ([],rparseS):=rfl
theorem phiRpar_3:phiRpar 72=some ([],rguessS):=rfl
theorem phiRpar_4:phiRpar 73=some ([],rcutS):=rfl
theorem phiRpar_5:phiRpar 12=some ([],rrightS11):=rfl
theorem phiRpar_6:phiRpar 24=some ([],rprnS):=rfl
theorem phiRpar_7:phiRpar 69=some ([],rlinesS):=rfl
def hpR (L:List (List UInt8)) (t:List UInt8) (ps:List (List UInt8)) (a c:WhoL) (acc:List ExL) (m:List UInt8):List AObj :=
 [.cells 28 com0,.row 9 1 L.length (L.map AV.str),.cells 28 (comPs t (.own 3 ps.length) a c (.own 4 acc.length) m),
  .row 22 20 ps.length (ps.map idAV),.row 65 2 acc.length (acc.map exV)]
def jn:List UInt8→List (List UInt8)→List UInt8
 | m,[]=>m
 | m,l :: ls=>jn (m ++ [10] ++ l) ls
theorem jn_app:∀ (ls:List (List UInt8)) (a b:List UInt8),jn (a ++ b) ls=a ++ jn b ls
 | [],a,b=>rfl
 | l :: ls,a,b=>by rw [jn,jn,← jn_app ls]; simp
theorem join_jn:∀ (ls:List (List UInt8)) (l:List UInt8),joinN (l :: ls)=jn l ls
 | [],l=>rfl
 | k :: ls,l=>by
  have:=jn_app ls (l ++ [10]) k
  rw [joinN,join_jn ls k,jn,this]; simp
set_option maxHeartbeats 4000000 in
theorem rpar_msg {s:List UInt8} {L:List (List UInt8)} (t:List UInt8) (ps:List (List UInt8)) (a c:WhoL) (es:List ExL) (i:Nat) (hi:i≤L.length) (r:Ret) (hs1:s.length≤10000) (hL:linesA [] s=L)
  (hg:guessC s=⟨t,ps,a,c,es,joinN (L.drop (i+1))⟩) {pr:Prop} (hr:rparR (guessC s) (rightC (guessC s) && decide (bodyC (guessC s)=s)) pr=some r)
  (h20:t.length=20) (hps:∀ p∈ps,p.length=20) (hpl:ps.length≤20000) (hel:es.length≤20000) (hew:wExt es≤40000) (ha:a.name.length+a.mail.length+a.zone.length≤40000∧inI a.time) (hc:c.name.length+c.mail.length+c.zone.length≤40000∧inI c.time) (s0:S2)
  (hk:ent [] [0,2,4,5,6,12] [0,1,2,3,4] (toS s0)=some ⟨[(0,.str s),(2,.ref 0 0 0),(4,.own 1 L.length),(5,.ref 2 0 0),(6,.int .i64 (i:Int)),(12,.int .i64 ((i:Int)+1))],hpR L t ps a c es []⟩) :
  loopQ2 0 (awp2 phiRpar 0 b_rpar_2) (inQ2 4 (thenQ2 (awp2 phiRpar 0 t_rpar_0 (retQ2 r_rpar 0 r)) (retQ2 r_rpar 0 r))) s0:=by
 have hLl:L.length≤s.length+1:=by have:=linesA_len s []; rw [hL] at this; exact this
 have hw:=wLin_lines s []
 rw [hL] at hw
 simp only [List.length_nil] at hw
 have hwi:=wLin_drop L (i+1)
 refine loop2P [] [0,2,4,5,6,12] [0,1,2,3,4] (fun q:Nat × List UInt8=>⟨[(0,.str s),(2,.ref 0 0 0),(4,.own 1 L.length),(5,.ref 2 0 0),(6,.int .i64 (i:Int)),(12,.int .i64 (((i+1+q.1:Nat)):Int))],hpR L t ps a c es q.2⟩)
  (fun q=>i+1+q.1≤L.length+1∧((q.1=0∧q.2=[])∨(0<q.1∧jn q.2 (L.drop (i+1+q.1))=joinN (L.drop (i+1))))∧q.2.length+wLin (L.drop (i+1+q.1))≤40000) (fun q=>L.length+1 - (i+1+q.1)) (0,[]) hk ⟨by simp only; omega,.inl ⟨rfl,rfl⟩,by simp only [List.length_nil,Nat.add_zero]; omega⟩ ⟨rfl,by rfl⟩ (fun q hq R hR=>?_)
 obtain ⟨n,m⟩:=q
 simp only at hq hR ⊢
 obtain ⟨h1,h2,h3⟩:=hq
 by_cases hil:i+1+n<L.length
 ·have c1:decide (((i+1+n:Nat):Int)<(L.length:Int))=true:=decide_eq_true (by omega)
  have hget:=getD_map AV.str L [] (AV.str []) hil
  have hga:L.getD (i+1+n) []=L[i+1+n]:=by simp [List.getD_eq_getElem?_getD,List.getElem?_eq_getElem hil]
  have hd:L.drop (i+1+n)=L[i+1+n] :: L.drop (i+1+n+1):=List.drop_eq_getElem_cons hil
  rw [hd] at h2 h3
  generalize L[i+1+n]=l at *
  simp only [wLin,List.map_cons,List.sum_cons] at h3
  rcases h2 with ⟨rfl,rfl⟩ | ⟨h2,h4⟩
  ·have c2:decide ((i:Int)+1<((i+1+0:Nat):Int))=false:=decide_eq_false (by omega)
   simp only [b_rpar_2,r_rpar,hpR,comPs,com0,who0,c1,c2,hget,hga,Int.toNat_natCast,go_sem,reduceDiv,reduceMod,↓reduceIte,reduceSub,reduceAdd,reduceLeDiff,reduceCtorEq]
   refine ⟨⟨by omega,by omega⟩,⟨by omega,by omega⟩,hil,by (first | omega | (simp only [lenOk]; omega)),⟨by omega,by omega⟩,hR _ (1,l) ⟨by simp only; omega,.inr ⟨Nat.one_pos,?_⟩,?_⟩ (by simp only; omega) rfl⟩
   ·rw [show i+1+0=i+1 from rfl] at hd
    rw [hd,join_jn]
   ·simp only [List.length_nil] at h3
    show l.length+wLin (L.drop (i+1+0+1))≤40000
    unfold wLin; omega
  ·have c2:decide ((i:Int)+1<((i+1+n:Nat):Int))=true:=decide_eq_true (by omega)
   simp only [b_rpar_2,r_rpar,hpR,comPs,com0,who0,c1,c2,hget,hga,Int.toNat_natCast,go_sem,reduceDiv,reduceMod,↓reduceIte,reduceSub,reduceAdd,reduceLeDiff,reduceCtorEq]
   refine ⟨⟨by omega,by omega⟩,by (first | omega | (simp only [lenOk]; omega)),⟨by omega,by omega⟩,hil,by (first | omega | (simp only [lenOk,List.length_append,List.length_cons,List.length_nil]; omega)),⟨by omega,by omega⟩,hR _ (n+1,m ++ [10] ++ l) ⟨by simp only; omega,.inr ⟨by omega,?_⟩,?_⟩ (by simp only; omega) rfl⟩
   ·simp only
    rw [← h4,jn]; rfl
   ·show (m ++ [10] ++ l).length+wLin (L.drop (i+1+n+1))≤40000
    simp only [List.length_append,List.length_cons,List.length_nil]
    unfold wLin; omega
 ·have c1:decide (((i+1+n:Nat):Int)<(L.length:Int))=false:=decide_eq_false (by omega)
  have hm:m=joinN (L.drop (i+1)):=by
   rcases h2 with ⟨rfl,rfl⟩ | ⟨h2,h4⟩
   ·rw [List.drop_of_length_le (by omega)]; rfl
   ·rw [List.drop_of_length_le (by omega)] at h4; exact h4
  rw [← hm] at hg
  rw [hg] at hr
  have hfp:=flat_par ps hps
  have hfe:=flat_ex es
  have hhx:=hexL_length t
  cases hri:rightC ⟨t,ps,a,c,es,m⟩ with
  | false =>
   rw [hri,Bool.false_and] at hr
   unfold rparR at hr
   simp only [Bool.false_eq_true,if_false] at hr
   injection hr with hr
   rw [← hr]
   simp only [b_rpar_2,t_rpar_0,r_rpar,phiRpar_5,hpR,comPs,com0,who0,rrightS11,unId_map,unEx_map,unV_U,c1,hri,go_sem,reduceDiv,reduceMod,↓reduceIte,reduceSub,Nat.reduceLT,reduceAdd,reduceLeDiff,reduceCtorEq]
   exact ⟨⟨.inl trivial,by omega,fun x hx=>by have:=mem_w es x hx; omega,by omega,by omega⟩,rfl⟩
  | true =>
   rw [hri,Bool.true_and] at hr
   obtain ⟨r1,r2,-⟩:=rightC_parts hri
   have l1:=textW_len r1
   have l2:=textW_len r2
   have hbl:(bodyC ⟨t,ps,a,c,es,m⟩).length≤2000000:=by
    rw [bodyC_shape]
    simp only [List.length_append,List.length_cons,treW,autW,comW,List.length_nil] at l1 l2 ⊢
    omega
   have hsz:sizeOkC ⟨t,ps,a,c,es,m⟩:=⟨by omega,h20,hps,by simp only; omega,by simp only; omega,fun x hx=>by have:=mem_w es x hx; omega,by simp only; omega,by simp only; omega⟩
   cases hbb:decide (bodyC ⟨t,ps,a,c,es,m⟩=s) with
   | false =>
    rw [hbb] at hr
    unfold rparR at hr
    simp only [Bool.false_eq_true,if_false] at hr
    injection hr with hr
    rw [← hr]
    simp only [b_rpar_2,t_rpar_0,r_rpar,phiRpar_5,phiRpar_6,hpR,comPs,com0,who0,rrightS11,rprnS,unId_map,unEx_map,unV_U,c1,hri,hbb,go_sem,reduceDiv,reduceMod,↓reduceIte,reduceSub,Nat.reduceLT,reduceAdd,reduceLeDiff,reduceCtorEq]
    refine ⟨⟨.inl trivial,by omega,fun x hx=>by have:=mem_w es x hx; omega,by omega,by omega⟩,?_⟩
    first | exact ⟨⟨.inl trivial,.inl trivial,hsz,ha.2,hc.2⟩,rfl⟩ | exact ⟨.inl trivial,.inl trivial,hsz,ha.2,hc.2⟩
   | true =>
    rw [hbb] at hr
    unfold rparR at hr
    simp only [if_true] at hr
    injection hr with hr
    rw [← hr]
    simp only [b_rpar_2,t_rpar_0,r_rpar,phiRpar_5,phiRpar_6,hpR,comPs,com0,who0,rrightS11,rprnS,unId_map,unEx_map,unV_U,c1,hri,hbb,go_sem,reduceDiv,reduceMod,↓reduceIte,reduceEqDiff,Nat.reduceBEq,reduceSub,Nat.reduceLT,reduceAdd,reduceLeDiff,reduceCtorEq]
    refine ⟨⟨.inl trivial,by omega,fun x hx=>by have:=mem_w es x hx; omega,by omega,by omega⟩,?_⟩
    first | exact ⟨⟨.inl trivial,.inl trivial,hsz,ha.2,hc.2⟩,rfl⟩ | exact ⟨.inl trivial,.inl trivial,hsz,ha.2,hc.2⟩
set_option maxHeartbeats 4000000 in
theorem rpar_tail {s:List UInt8} {L:List (List UInt8)} (t:List UInt8) (ps:List (List UInt8)) (a c:WhoL) (A:Nat) (hA:A≤L.length) (r:Ret) (hs1:s.length≤10000) (hL:linesA [] s=L)
  (hg:guessC s=⟨t,ps,a,c,(gExt [] (L.drop A)).1,joinN ((gExt [] (L.drop A)).2.drop 1)⟩) {pr:Prop} (hr:rparR (guessC s) (rightC (guessC s) && decide (bodyC (guessC s)=s)) pr=some r)
  (h20:t.length=20) (hps:∀ p∈ps,p.length=20) (hpl:ps.length≤20000) (ha:a.name.length+a.mail.length+a.zone.length≤40000∧inI a.time) (hc:c.name.length+c.mail.length+c.zone.length≤40000∧inI c.time) (s0:S2)
  (hk:ent [(4234,65,2)] [0,2,4,5,6] [0,1,2,3,4] (toS s0)=some ⟨[(0,.str s),(2,.ref 0 0 0),(4,.own 1 L.length),(5,.ref 2 0 0),(6,.int .i64 (A:Int))],hpR L t ps a c [] []⟩) :
  awp2 phiRpar 0 k_rpar_t2_B2 (retQ2 r_rpar 0 r) s0:=by
 have hLl:L.length≤s.length+1:=by have:=linesA_len s []; rw [hL] at this; exact this
 have hLe:∀ l∈L,l.length≤s.length:=by intro l hl; rw [← hL] at hl; have:=linesA_le s [] l hl; simpa using this
 have hw:=wLin_lines s []
 rw [hL] at hw
 simp only [List.length_nil] at hw
 have hwA:=wLin_drop L A
 generalize hE:gExt [] (L.drop A)=E at *
 simp only [k_rpar_t2_B2,go_sem]
 refine loop2P [(4234,65,2)] [0,2,4,5,6] [0,1,2,3,4] (fun q:Nat × List ExL=>⟨[(0,.str s),(2,.ref 0 0 0),(4,.own 1 L.length),(5,.ref 2 0 0),(6,.int .i64 (q.1:Int))],hpR L t ps a c q.2 []⟩)
  (fun q=>q.1≤L.length∧gExt q.2 (L.drop q.1)=E∧wExt q.2+wLin (L.drop q.1)≤40000∧q.2.length≤q.1) (fun q=>L.length - q.1) (A,[]) hk ⟨hA,hE,by simp only [wExt,List.map_nil,List.sum_nil]; omega,Nat.zero_le _⟩ ⟨rfl,by rfl⟩ (fun q hq R hR=>?_)
 obtain ⟨i,acc⟩:=q
 simp only at hq hR ⊢
 obtain ⟨h1,h2,h3,h4⟩:=hq
 by_cases hil:i<L.length
 ·have c1:decide ((i:Int)<(L.length:Int))=true:=decide_eq_true (by omega)
  have hget:=getD_map AV.str L [] (AV.str []) hil
  have hga:L.getD i []=L[i]:=by simp [List.getD_eq_getElem?_getD,List.getElem?_eq_getElem hil]
  have hd:L.drop i=L[i] :: L.drop (i+1):=List.drop_eq_getElem_cons hil
  have hle:=hLe L[i] (List.getElem_mem _)
  rw [hd,gExt] at h2
  generalize L[i]=l at *
  cases h5:decide (l=[]) with
  | true =>
   have h5' := of_decide_eq_true h5
   rw [if_pos h5'] at h2
   simp only [b_rpar_1,t_rpar_1,hpR,comPs,com0,who0,c1,hget,hga,h5,Int.toNat_natCast,go_sem,reduceDiv,reduceMod,↓reduceIte]
   subst h2
   exact ⟨⟨by omega,by omega⟩,hil,⟨by omega,by omega⟩,rpar_msg t ps a c acc i h1 r hs1 hL hg hr h20 hps hpl (by omega) (by omega) ha hc _ (by rfl)⟩
  | false =>
   have h5' := of_decide_eq_false h5
   rw [if_neg h5'] at h2
   have hl0:0<l.length:=List.length_pos_iff.2 h5'
   have hh:at8 l 0=32↔l.head?=some 32:=by
    cases l with
    | nil=>exact absurd rfl h5'
    | cons z zs =>
     rw [List.head?_cons]
     show ((z.toNat:Nat):Int)=32↔_
     constructor
     ·intro h; rw [show z=32 from UInt8.toNat_inj.1 (by rw [show (32:UInt8).toNat=32 from rfl]; omega)]
     ·intro h; injection h with h; rw [h]; rfl
   by_cases hc2:l.head?=some 32∧acc≠[]
   ·rw [if_pos hc2] at h2
    have ha0:0<acc.length:=List.length_pos_iff.2 hc2.2
    have c2:decide (at8 l 0=32)=true:=decide_eq_true (hh.2 hc2.1)
    have c3:decide (0≤(acc.length:Int) - 1)=true:=decide_eq_true (by omega)
    have e2:((acc.length:Int) - 1).toNat=acc.length - 1:=by omega
    have hget2:=getD_map exV acc ([],[]) (AV.agg [(1,AV.str []),(1,AV.str [])]) (show acc.length - 1<acc.length by omega)
    have hga2:acc.getD (acc.length - 1) ([],[])=acc[acc.length - 1]'(by omega):=by simp [List.getD_eq_getElem?_getD,List.getElem?_eq_getElem (show acc.length - 1<acc.length by omega)]
    have hmw:=mem_w acc (acc.getD (acc.length - 1) ([],[])) (by rw [hga2]; exact List.getElem_mem _)
    have htl:l.take l.length=l:=List.take_length
    obtain ⟨w1,w2⟩:=cont1_w acc (l.drop 1) hc2.2
    rw [List.length_drop] at w1
    rw [hd] at h3
    simp only [wLin,List.map_cons,List.sum_cons] at h3
    simp only [b_rpar_1,hpR,comPs,com0,who0,c1,c2,c3,hget,hga,h5,e2,hget2,exV,htl,Int.toNat_natCast,go_sem,reduceDiv,reduceMod,↓reduceIte,reduceSub,reduceAdd,reduceLeDiff,reduceCtorEq,Int.reduceLE,Int.reduceToNat]
    refine ⟨⟨by omega,by omega⟩,hil,⟨by omega,by omega⟩,⟨by omega,by omega⟩,hil,by omega,⟨by omega,by omega⟩,by omega,by (first | omega | (simp only [lenOk]; omega)),⟨by omega,by omega⟩,hil,⟨by omega,by omega⟩,by (first | omega | (simp only [lenOk,List.length_append,List.length_cons,List.length_nil,List.length_drop]; omega)),⟨by omega,by omega⟩,by omega,⟨by omega,by omega⟩,
     hR _ (i+1,cont1 acc (l.drop 1)) ⟨by simp only; omega,h2,by simp only [wLin]; omega,by simp only; omega⟩ (by simp only; omega) ?_⟩
    simp only [hpR,w2]
    unfold cont1
    rw [List.map_set]
    rfl
   ·rw [if_neg hc2] at h2
    have hlen:(acc.map exV ++ [AV.agg [(1,AV.str (cut l [32]).1),(1,AV.str (cut l [32]).2.1)]]).length=acc.length+1:=by simp
    have hcl:=gExt_w.cut_len2 l
    rw [hd] at h3
    have hwb:wExt (acc ++ [((cut l [32]).1,(cut l [32]).2.1)])+wLin (L.drop (i+1))≤40000:=by
     rw [wExt_app]
     simp only [wExt,wLin,List.map_cons,List.map_nil,List.sum_cons,List.sum_nil] at h3 ⊢; omega
    cases c2:decide (at8 l 0=32) with
    | false =>
     simp only [b_rpar_1,phiRpar_4,rcutS,hpR,comPs,com0,who0,c1,c2,hget,hga,h5,chr_32,Int.toNat_natCast,go_sem,reduceDiv,reduceMod,↓reduceIte,reduceSub,Nat.reduceLT,reduceAdd,reduceLeDiff,reduceCtorEq,Int.reduceLT,Int.reduceLE,Int.reduceToNat]
     refine ⟨⟨by omega,by omega⟩,hil,⟨by omega,by omega⟩,⟨by omega,by omega⟩,hil,by omega,⟨by omega,by omega⟩,hil,by omega,⟨by rw [hlen]; (first | omega | (simp only [lenOk]; omega)),by rw [hlen]; (first | omega | (simp only [bytesOk]; omega))⟩,⟨by omega,by omega⟩,
      hR _ (i+1,acc ++ [((cut l [32]).1,(cut l [32]).2.1)]) ⟨by simp only; omega,h2,hwb,by simp only [List.length_append,List.length_cons,List.length_nil]; omega⟩ (by simp only; omega) ?_⟩
     simp only [hpR,List.length_append,List.length_cons,List.length_nil,List.map_append,List.map_cons,List.map_nil]
     rfl
    | true =>
     have c3:decide (0≤(acc.length:Int) - 1)=false:=decide_eq_false (by
      intro h; exact hc2 ⟨hh.1 (of_decide_eq_true c2),fun e=>by rw [e] at h; simp at h⟩)
     simp only [b_rpar_1,phiRpar_4,rcutS,hpR,comPs,com0,who0,c1,c2,c3,hget,hga,h5,chr_32,Int.toNat_natCast,go_sem,reduceDiv,reduceMod,↓reduceIte,reduceSub,Nat.reduceLT,reduceAdd,reduceLeDiff,reduceCtorEq,Int.reduceLT,Int.reduceLE,Int.reduceToNat]
     refine ⟨⟨by omega,by omega⟩,hil,⟨by omega,by omega⟩,⟨by omega,by omega⟩,hil,by omega,⟨by omega,by omega⟩,hil,by omega,⟨by rw [hlen]; (first | omega | (simp only [lenOk]; omega)),by rw [hlen]; (first | omega | (simp only [bytesOk]; omega))⟩,⟨by omega,by omega⟩,
      hR _ (i+1,acc ++ [((cut l [32]).1,(cut l [32]).2.1)]) ⟨by simp only; omega,h2,hwb,by simp only [List.length_append,List.length_cons,List.length_nil]; omega⟩ (by simp only; omega) ?_⟩
     simp only [hpR,List.length_append,List.length_cons,List.length_nil,List.map_append,List.map_cons,List.map_nil]
     rfl
 ·have c1:decide ((i:Int)<(L.length:Int))=false:=decide_eq_false (by omega)
  rw [List.drop_of_length_le (by omega),gExt] at h2
  subst h2
  have hg2:guessC s=⟨t,ps,a,c,acc,joinN (L.drop (i+1))⟩:=by rw [hg,List.drop_of_length_le (show L.length≤i+1 by omega)]; rfl
  simp only [b_rpar_1,t_rpar_1,hpR,comPs,com0,who0,c1,go_sem,reduceDiv,reduceMod,↓reduceIte]
  exact ⟨⟨by omega,by omega⟩,rpar_msg t ps a c acc i h1 r hs1 hL hg2 hr h20 hps hpl (by omega) (by omega) ha hc _ (by rfl)⟩
theorem gWho_len {L:List (List UInt8)} (hL:∀ l∈L,l.length≤10000) (w:List UInt8) (n:Nat):(gWho w (L.drop n)).name.length+(gWho w (L.drop n)).mail.length+(gWho w (L.drop n)).zone.length≤40000∧inI (gWho w (L.drop n)).time:=by
 cases h:L.drop n with
 | nil=>exact ⟨by simp [gWho,who0],by simp only [gWho,who0,inI]; omega⟩
 | cons l ls =>
  have h1:=hL l (List.mem_of_mem_drop (by rw [h]; exact List.mem_cons_self ..))
  have h2:=frontL_len l w
  obtain ⟨g1,g2,g3,g4,g5⟩:=guessW_len (frontL l w)
  simp only [gWho]
  exact ⟨by omega,by unfold inI; omega⟩
set_option maxHeartbeats 4000000 in
theorem rpar_ok:FnOk Tryz.prog 40 rparS:=by
 refine fn_slim2 Tryz.func40 s_rpar phiRpar_ok ?_
 intro xs hp r hs hp'
 unfold rparS at hs
 split at hs
 ·rename_i s
  have p1:=rparR_pre hs hp'
  refine ⟨len_le (by kernel_rfl),?_⟩
  generalize hL:linesA [] s=L at *
  have hLl:L.length≤s.length+1:=by have:=linesA_len s []; rw [hL] at this; exact this
  have hLe:∀ l∈L,l.length≤10000:=by intro l hl; rw [← hL] at hl; have:=linesA_le s [] l hl; simp only [List.length_nil] at this; omega
  have hL0:0<L.length:=List.length_pos_iff.2 (by rw [← hL]; exact linesA_ne s [])
  have c0:decide ((0:Int)<(L.length:Int))=true:=decide_eq_true (by omega)
  have hget0:=getD_map AV.str L [] (AV.str []) hL0
  have hga0:L.getD 0 []=L.headD []:=by cases L with | nil=>simp at hL0 | cons a b=>rfl
  have hle0:=hLe (L.headD []) (by rw [← hga0]; simp [List.getD_eq_getElem?_getD,List.getElem?_eq_getElem hL0])
  have hfl0:=frontL_len (L.headD []) treW
  have hw0:([116,114,101,101,32]:List UInt8)=treW:=rfl
  have hr20:∀ l,(rOut l).length=20:=fun l=>by rw [rOut_eq]; exact pOut_len l
  simp only [c_rpar,phiRpar_1,phiRpar_2,phiRpar_7,rfrontS,rparseS,rlinesS,hL,c0,hget0,hga0,hw0,go_sem,reduceDiv,reduceMod,↓reduceIte,reduceSub,Nat.reduceLT,reduceAdd,reduceLeDiff,reduceCtorEq,Int.reduceLE,Int.reduceToNat]
  refine ⟨by omega,by omega,hL0,⟨by omega,by decide⟩,by omega,hr20 _,⟨by omega,by omega⟩,?_⟩
  generalize htr:rOut (frontL (L.headD []) treW)=tr at *
  have htr20:tr.length=20:=by rw [← htr]; exact hr20 _
  have hgs:guessC s=⟨tr,(gParents (L.drop 1)).1,gWho autW (gParents (L.drop 1)).2,gWho comW ((gParents (L.drop 1)).2.drop 1),(gExt [] ((gParents (L.drop 1)).2.drop 2)).1,joinN ((gExt [] ((gParents (L.drop 1)).2.drop 2)).2.drop 1)⟩:=by
   unfold guessC; rw [hL,htr]
  generalize hP:gParents (L.drop 1)=P at *
  refine loop2P [(4225,22,20)] [0,2,4,5,6] [0,1,2,3] (fun q:Nat × List (List UInt8)=>⟨[(0,.str s),(2,.ref 0 0 0),(4,.own 1 L.length),(5,.ref 2 0 0),(6,.int .i64 (q.1:Int))],
   [.cells 28 com0,.row 9 1 L.length (L.map AV.str),.cells 28 (comPs tr (.own 3 q.2.length) who0 who0 (.con (.slice none 0 0)) []),.row 22 20 q.2.length (q.2.map idAV)]⟩)
   (fun q=>q.1≤L.length∧(q.2 ++ (gParents (L.drop q.1)).1=P.1∧(gParents (L.drop q.1)).2=P.2)∧q.2.length≤q.1∧∀ p∈q.2,p.length=20) (fun q=>L.length - q.1) (1,[]) (by rfl) ⟨hL0,⟨by rw [hP]; rfl,by rw [hP]⟩,Nat.zero_le _,fun p hp=>by cases hp⟩ ⟨rfl,by rfl⟩ (fun q hq R hR=>?_)
  obtain ⟨i,acc⟩:=q
  simp only at hq hR ⊢
  obtain ⟨h1,⟨h2,h3⟩,h4,h5⟩:=hq
  have h00:who0.name.length+who0.mail.length+who0.zone.length≤40000∧inI who0.time:=⟨by decide,by unfold inI who0; simp only; omega⟩
  have hwp:([112,97,114,101,110,116,32]:List UInt8)=parW:=rfl
  have hwa:([97,117,116,104,111,114,32]:List UInt8)=autW:=rfl
  have hwc:([99,111,109,109,105,116,116,101,114,32]:List UInt8)=comW:=rfl
  by_cases hil:i<L.length
  ·have c1:decide ((i:Int)<(L.length:Int))=true:=decide_eq_true (by omega)
   have hget:=getD_map AV.str L [] (AV.str []) hil
   have hga:L.getD i []=L[i]:=by simp [List.getD_eq_getElem?_getD,List.getElem?_eq_getElem hil]
   have hd:L.drop i=L[i] :: L.drop (i+1):=List.drop_eq_getElem_cons hil
   have hle:=hLe L[i] (List.getElem_mem _)
   have hwh:=gWho_len hLe autW i
   rw [hd,gParents] at h2 h3
   rw [hd] at hwh
   generalize L[i]=l at *
   have hf1:=frontL_len l parW
   cases hn:decide (frontL l parW=[]) with
   | false =>
    have hn' := of_decide_eq_false hn
    rw [if_neg hn'] at h2 h3
    have hlen:(acc.map idAV ++ [AV.blob ((rOut (frontL l parW)).map U)]).length=acc.length+1:=by simp
    simp only [b_rpar_0,phiRpar_1,phiRpar_2,rfrontS,rparseS,comPs,com0,who0,hwp,c1,hget,hga,hn,hr20,Int.toNat_natCast,go_sem,reduceDiv,reduceMod,↓reduceIte,reduceSub,Nat.reduceLT,reduceAdd,reduceCtorEq]
    refine ⟨⟨by omega,by omega⟩,hil,⟨by omega,by decide⟩,⟨by omega,by omega⟩,hil,⟨by omega,by decide⟩,by omega,⟨by rw [hlen]; (first | omega | (simp only [lenOk]; omega)),by rw [hlen]; (first | omega | (simp only [bytesOk]; omega))⟩,⟨by omega,by omega⟩,
     hR _ (i+1,acc ++ [rOut (frontL l parW)]) ⟨by simp only; omega,⟨by simpa using h2,h3⟩,by simp only [List.length_append,List.length_cons,List.length_nil]; omega,fun p hp=>?_⟩ (by simp only; omega) ?_⟩
    ·rcases List.mem_append.1 hp with hp | hp
     ·exact h5 p hp
     ·rw [List.mem_singleton.1 hp]; exact hr20 _
    ·simp only [comPs,List.length_append,List.length_cons,List.length_nil,List.map_append,List.map_cons,List.map_nil]
     rfl
   | true =>
    have hn' := of_decide_eq_true hn
    rw [if_pos hn'] at h2 h3
    simp only [List.append_nil] at h2
    rw [← h2,← h3] at hgs
    simp only [gWho,List.drop_succ_cons,List.drop_zero] at hgs hwh
    have hf2:=frontL_len l autW
    by_cases hil2:i+1<L.length
    ·have c2:decide ((i:Int)+1<(L.length:Int))=true:=decide_eq_true (by omega)
     have e1:((i:Int)+1).toNat=i+1:=by omega
     have hget2:=getD_map AV.str L [] (AV.str []) hil2
     have hga2:L.getD (i+1) []=L[i+1]:=by simp [List.getD_eq_getElem?_getD,List.getElem?_eq_getElem hil2]
     have hd2:L.drop (i+1)=L[i+1] :: L.drop (i+1+1):=List.drop_eq_getElem_cons hil2
     have hle2:=hLe L[i+1] (List.getElem_mem _)
     have hwh2:=gWho_len hLe comW (i+1)
     rw [hd2] at hwh2 hgs
     generalize L[i+1]=l2 at *
     have hf3:=frontL_len l2 comW
     simp only [gWho,List.drop_succ_cons,List.drop_zero] at hgs hwh2
     simp only [b_rpar_0,t_rpar_2,phiRpar_1,phiRpar_3,rfrontS,rguessS,comPs,com0,who0,whoP,hwp,hwa,hwc,c1,c2,e1,hget,hga,hget2,hga2,hn,Int.toNat_natCast,go_sem,reduceDiv,reduceMod,↓reduceIte,reduceSub,reduceAdd,reduceLeDiff,reduceCtorEq]
     refine ⟨⟨by omega,by omega⟩,hil,⟨by omega,by decide⟩,⟨by omega,by omega⟩,hil,⟨by omega,by decide⟩,by omega,⟨by omega,by omega⟩,⟨by omega,by omega⟩,hil2,⟨by omega,by decide⟩,by omega,⟨by omega,by omega⟩,?_⟩
     exact rpar_tail tr acc (guessW (frontL l autW)) (guessW (frontL l2 comW)) (i+1+1) (by omega) r p1 hL hgs hs htr20 h5 (by omega) hwh hwh2 _ (by rfl)
    ·have c2:decide ((i:Int)+1<(L.length:Int))=false:=decide_eq_false (by omega)
     have hd2:L.drop (i+1)=[]:=List.drop_of_length_le (by omega)
     have hgs2:guessC s=⟨tr,acc,guessW (frontL l autW),who0,(gExt [] (L.drop (i+1))).1,joinN ((gExt [] (L.drop (i+1))).2.drop 1)⟩:=by
      rw [hgs,hd2]; rfl
     simp only [b_rpar_0,t_rpar_2,phiRpar_1,phiRpar_3,rfrontS,rguessS,comPs,com0,who0,whoP,hwp,hwa,hwc,c1,c2,hget,hga,hn,Int.toNat_natCast,go_sem,reduceDiv,reduceMod,↓reduceIte,reduceSub,reduceAdd,reduceLeDiff,reduceCtorEq]
     refine ⟨⟨by omega,by omega⟩,hil,⟨by omega,by decide⟩,⟨by omega,by omega⟩,hil,⟨by omega,by decide⟩,by omega,⟨by omega,by omega⟩,?_⟩
     exact rpar_tail tr acc (guessW (frontL l autW)) who0 (i+1) (by omega) r p1 hL hgs2 hs htr20 h5 (by omega) hwh h00 _ (by rfl)
  ·have c1:decide ((i:Int)<(L.length:Int))=false:=decide_eq_false (by omega)
   have hd:L.drop i=[]:=List.drop_of_length_le (by omega)
   rw [hd] at h2 h3
   simp only [gParents,List.append_nil] at h2 h3
   rw [← h2,← h3] at hgs
   have hgs2:guessC s=⟨tr,acc,who0,who0,(gExt [] (L.drop i)).1,joinN ((gExt [] (L.drop i)).2.drop 1)⟩:=by
    rw [hgs,hd]; rfl
   simp only [b_rpar_0,t_rpar_2,comPs,com0,who0,hwp,hwa,hwc,c1,go_sem,reduceDiv,reduceMod,↓reduceIte]
   exact rpar_tail tr acc who0 who0 i (by omega) r p1 hL hgs2 hs htr20 h5 (by omega) h00 h00 _ (by rfl)
 ·cases hs
def sameH (c d:ChgL):Bool:=decide (c.man=d.man) && decide (c.user=d.user) && decide (c.time=d.time) && decide (c.zone=d.zone) && decide (c.desc=d.desc) && decide (c.extras=d.extras) && decide (c.files=d.files)
theorem sameH_iff {c d:ChgL}:sameH c d=true↔c=d:=by
 cases c; cases d; simp [sameH]; constructor
 ·rintro ⟨⟨⟨⟨⟨⟨rfl,rfl⟩,rfl⟩,rfl⟩,rfl⟩,rfl⟩,rfl⟩; simp
 ·rintro ⟨rfl,rfl,rfl,rfl,rfl,rfl,rfl⟩; simp
theorem sameH_self (c:ChgL):sameH c c=true:=sameH_iff.2 rfl
def argS7 (m:List Value) (ke:Nat) (es:List AV) (kf:Nat) (fs:List AV):Prop:=m=(unV m).map U∧es=(es.map unEx).map exV∧fs=(fs.map unS).map AV.str∧(ke=2∨es=[])∧(kf=1∨fs=[])∧(unV m).length=20∧es.length≤1000000∧fs.length≤1000000
def rgsameS:Spec:=fun xs hp=>match xs,hp with
 | [.agg [(20,.blob m),(1,.str u),(1,.int .i64 t),(1,.int .i64 z),(1,.sl ke es),(1,.sl kf fs),(1,.str d)],.agg [(20,.blob m2),(1,.str u2),(1,.int .i64 t2),(1,.int .i64 z2),(1,.sl ke2 es2),(1,.sl kf2 fs2),(1,.str d2)]],[] =>
  some ⟨.bool (sameH ⟨unV m,u,t,z,es.map unEx,fs.map unS,d⟩ ⟨unV m2,u2,t2,z2,es2.map unEx,fs2.map unS,d2⟩),[],argS7 m ke es kf fs∧argS7 m2 ke2 es2 kf2 fs2⟩
 | _,_=>none
theorem takeX_succ {α:Type} {l m:List α} {i:Nat} (h:l.take i=m.take i) (hi:i<l.length) (hj:i<m.length) (e:l[i]=m[i]):l.take (i+1)=m.take (i+1):=by
 rw [List.take_add_one,List.take_add_one,h,List.getElem?_eq_getElem hi,List.getElem?_eq_getElem hj,e]
set_option maxHeartbeats 4000000 in
theorem rgsame_ok:FnOk Tryz.prog 14 rgsameS:=by
 refine fn_slim2 Tryz.func14 s_rgsame (Φ:=phiL []) phi_nil ?_
 intro xs hp r hs hp'
 unfold rgsameS at hs
 split at hs
 ·injection hs with hs; subst hs
  rename_i m u t z ke es kf fs d m2 u2 t2 z2 ke2 es2 kf2 fs2 d2
  obtain ⟨⟨q1,q2,q3,q4,q5,q6,q7,q8⟩,w1,w2,w3,w4,w5,w6,w7,w8⟩:=hp'
  generalize unV m=m at *
  subst q1
  generalize es.map unEx=es at *
  subst q2
  generalize fs.map unS=fs at *
  subst q3
  generalize unV m2=m2 at *
  subst w1
  generalize es2.map unEx=es2 at *
  subst w2
  generalize fs2.map unS=fs2 at *
  subst w3
  rw [List.length_map] at q7 q8 w7 w8
  refine ⟨len_le (by kernel_rfl),?_⟩
  unfold sameH
  simp only
  cases h1:decide (m=m2) with
  | false =>
   simp only [c_rgsame,h1,r_rgsame,unV_U,Bool.false_and,go_sem,reduceDiv,reduceMod,↓reduceIte,reduceAdd]
   (repeat' apply And.intro); all_goals first | exact q6 | exact w6 | omega | rfl | skip
  | true =>
  cases h2:decide (u=u2) with
  | false =>
   simp only [c_rgsame,h1,h2,r_rgsame,unV_U,Bool.false_and,Bool.and_false,go_sem,reduceDiv,reduceMod,↓reduceIte,reduceSub,reduceAdd,reduceCtorEq]
   (repeat' apply And.intro); all_goals first | exact q6 | exact w6 | omega | rfl | skip
  | true =>
  cases h3:decide (t=t2) with
  | false =>
   simp only [c_rgsame,h1,h2,h3,r_rgsame,unV_U,Bool.false_and,Bool.and_false,Bool.true_and,go_sem,reduceDiv,reduceMod,↓reduceIte,reduceSub,reduceAdd,reduceLeDiff,reduceCtorEq]
   (repeat' apply And.intro); all_goals first | exact q6 | exact w6 | omega | rfl | skip
  | true =>
  cases h4:decide (z=z2) with
  | false =>
   simp only [c_rgsame,h1,h2,h3,h4,r_rgsame,unV_U,Bool.false_and,Bool.and_false,Bool.true_and,go_sem,reduceDiv,reduceMod,↓reduceIte,reduceSub,reduceAdd,reduceLeDiff,reduceCtorEq]
   (repeat' apply And.intro); all_goals first | exact q6 | exact w6 | omega | rfl | skip
  | true =>
  cases h5:decide (d=d2) with
  | false =>
   simp only [c_rgsame,h1,h2,h3,h4,h5,r_rgsame,unV_U,Bool.false_and,Bool.and_false,Bool.true_and,go_sem,reduceDiv,reduceMod,↓reduceIte,reduceSub,reduceAdd,reduceLeDiff,reduceCtorEq]
   (repeat' apply And.intro); all_goals first | exact q6 | exact w6 | omega | rfl | skip
  | true =>
  by_cases h6:es.length=es2.length
  rotate_left
  ·have d6:decide ((es.length:Int)=(es2.length:Int))=false:=decide_eq_false (by omega)
   have e:decide (es=es2)=false:=decide_eq_false (by rintro rfl; exact h6 rfl)
   simp only [c_rgsame,h1,h2,h3,h4,h5,d6,e,r_rgsame,unV_U,List.length_map,Bool.false_and,Bool.and_false,Bool.true_and,go_sem,reduceDiv,reduceMod,↓reduceIte,reduceSub,reduceAdd,reduceLeDiff,reduceCtorEq]
   (repeat' apply And.intro); all_goals first | exact q6 | exact w6 | omega | rfl | skip
  have d6:decide ((es.length:Int)=(es2.length:Int))=true:=decide_eq_true (by omega)
  by_cases h7:fs.length=fs2.length
  rotate_left
  ·have d7:decide ((fs.length:Int)=(fs2.length:Int))=false:=decide_eq_false (by omega)
   have e:decide (fs=fs2)=false:=decide_eq_false (by rintro rfl; exact h7 rfl)
   simp only [c_rgsame,h1,h2,h3,h4,h5,d6,d7,e,r_rgsame,unV_U,List.length_map,Bool.and_false,Bool.true_and,go_sem,reduceDiv,reduceMod,↓reduceIte,reduceSub,reduceAdd,reduceLeDiff,reduceCtorEq]
   (repeat' apply And.intro); all_goals first | exact q6 | exact w6 | omega | rfl | skip
  have d7:decide ((fs.length:Int)=(fs2.length:Int))=true:=decide_eq_true (by omega)
  simp only [c_rgsame,h1,h2,h3,h4,h5,d6,d7,unV_U,Bool.true_and,List.length_map,go_sem,reduceDiv,reduceMod,↓reduceIte,reduceSub,reduceAdd,reduceLeDiff,reduceCtorEq]
  refine ⟨⟨q6,w6⟩,?_⟩
  refine loop2P [] [2,3,5] [0,1] (fun i:Nat=>⟨[(2,.ref 0 0 0),(3,.ref 1 0 0),(5,.int .i64 (i:Int))],[.cells 49 [(20,.blob (m.map U)),(1,.str u),(1,.int .i64 t),(1,.int .i64 z),(1,.sl ke (es.map exV)),(1,.sl kf (fs.map AV.str)),(1,.str d)],.cells 49 [(20,.blob (m2.map U)),(1,.str u2),(1,.int .i64 t2),(1,.int .i64 z2),(1,.sl ke2 (es2.map exV)),(1,.sl kf2 (fs2.map AV.str)),(1,.str d2)]]⟩)
   (fun i=>i≤es.length∧es.take i=es2.take i) (fun i=>es.length - i) 0 rfl ⟨Nat.zero_le _,by simp⟩ ⟨rfl,by rfl⟩ (fun j hj R hR=>?_)
  obtain ⟨j1,j2⟩:=hj
  by_cases hjl:j<es.length
  ·have c1:decide ((j:Int)<(es.length:Int))=true:=decide_eq_true (by omega)
   have hk:ke=2:=q4.resolve_right (by intro h; have:=congrArg List.length h; simp at this; rw [this] at hjl; simp at hjl)
   have hk2:ke2=2:=w4.resolve_right (by intro h; have:=congrArg List.length h; simp at this; rw [this] at h6; simp at h6; rw [h6] at hjl; simp at hjl)
   subst hk hk2
   have hget:=getD_map exV es ([],[]) (.agg [(1,(.str [])),(1,(.str []))]) hjl
   have hga:es.getD j ([],[])=es[j]:=by simp [List.getD_eq_getElem?_getD,List.getElem?_eq_getElem hjl]
   have hget2:=getD_map exV es2 ([],[]) (.agg [(1,(.str [])),(1,(.str []))]) (show j<es2.length by omega)
   have hga2:es2.getD j ([],[])=es2[j]:=by simp [List.getD_eq_getElem?_getD,List.getElem?_eq_getElem (show j<es2.length by omega)]
   have hpe:(decide (es[j].1=es2[j].1) && decide (es[j].2=es2[j].2))=decide (es[j]=es2[j]):=by
    rw [Bool.eq_iff_iff]; simp [Prod.ext_iff]
   cases hx:decide (es[j]=es2[j]) with
   | false =>
    have e:decide (es=es2)=false:=decide_eq_false (by rintro rfl; exact (of_decide_eq_false hx) rfl)
    rw [e]
    simp only [b_rgsame_0,r_rgsame,c1,hget,hga,hget2,hga2,exV,hpe,hx,Int.toNat_natCast,List.length_map,go_sem,reduceDiv,reduceMod,↓reduceIte,reduceSub,reduceAdd,reduceLeDiff,reduceCtorEq]
    repeat' apply And.intro
    all_goals first | omega | rfl | trivial | skip
   | true =>
    simp only [b_rgsame_0,r_rgsame,c1,hget,hga,hget2,hga2,exV,hpe,hx,Int.toNat_natCast,List.length_map,go_sem,reduceDiv,reduceMod,↓reduceIte,reduceSub,reduceAdd,reduceLeDiff,reduceCtorEq]
    refine ⟨⟨by omega,by omega⟩,⟨by omega,by omega⟩,⟨by omega,by omega⟩,hR _ (j+1) ⟨by omega,takeX_succ j2 hjl (by omega) (of_decide_eq_true hx)⟩ (by omega) rfl⟩
  have c1:decide ((j:Int)<(es.length:Int))=false:=decide_eq_false (by omega)
  have e1:es=es2:=by
   rw [List.take_of_length_le (by omega),List.take_of_length_le (by omega)] at j2; exact j2
  have e:decide (es=es2)=true:=decide_eq_true e1
  rw [e]
  simp only [b_rgsame_0,t_rgsame_1,c1,Bool.true_and,List.length_map,go_sem,reduceDiv,reduceMod,↓reduceIte,reduceSub,reduceAdd,reduceLeDiff,reduceCtorEq]
  clear hR R
  refine loop2P [] [2,3,6] [0,1] (fun i:Nat=>⟨[(2,.ref 0 0 0),(3,.ref 1 0 0),(6,.int .i64 (i:Int))],[.cells 49 [(20,.blob (m.map U)),(1,.str u),(1,.int .i64 t),(1,.int .i64 z),(1,.sl ke (es.map exV)),(1,.sl kf (fs.map AV.str)),(1,.str d)],.cells 49 [(20,.blob (m2.map U)),(1,.str u2),(1,.int .i64 t2),(1,.int .i64 z2),(1,.sl ke2 (es2.map exV)),(1,.sl kf2 (fs2.map AV.str)),(1,.str d2)]]⟩)
   (fun i=>i≤fs.length∧fs.take i=fs2.take i) (fun i=>fs.length - i) 0 rfl ⟨Nat.zero_le _,by simp⟩ ⟨rfl,by rfl⟩ (fun i hi R hR=>?_)
  obtain ⟨i1,i2⟩:=hi
  by_cases hil:i<fs.length
  ·have c1:decide ((i:Int)<(fs.length:Int))=true:=decide_eq_true (by omega)
   have hk:kf=1:=q5.resolve_right (by intro h; have:=congrArg List.length h; simp at this; rw [this] at hil; simp at hil)
   have hk2:kf2=1:=w5.resolve_right (by intro h; have:=congrArg List.length h; simp at this; rw [this] at h7; simp at h7; rw [h7] at hil; simp at hil)
   subst hk hk2
   have hget:=getD_map AV.str fs [] (AV.str []) hil
   have hga:fs.getD i []=fs[i]:=by simp [List.getD_eq_getElem?_getD,List.getElem?_eq_getElem hil]
   have hget2:=getD_map AV.str fs2 [] (AV.str []) (show i<fs2.length by omega)
   have hga2:fs2.getD i []=fs2[i]:=by simp [List.getD_eq_getElem?_getD,List.getElem?_eq_getElem (show i<fs2.length by omega)]
   cases hx:decide (fs[i]=fs2[i]) with
   | false =>
    have e:decide (fs=fs2)=false:=decide_eq_false (by rintro rfl; exact (of_decide_eq_false hx) rfl)
    rw [e]
    simp only [b_rgsame_1,r_rgsame,c1,hget,hga,hget2,hga2,hx,Int.toNat_natCast,List.length_map,go_sem,reduceDiv,reduceMod,↓reduceIte,reduceSub,reduceAdd,reduceLeDiff,reduceCtorEq]
    repeat' apply And.intro
    all_goals first | omega | rfl | trivial | skip
   | true =>
    simp only [b_rgsame_1,r_rgsame,c1,hget,hga,hget2,hga2,hx,Int.toNat_natCast,List.length_map,go_sem,reduceDiv,reduceMod,↓reduceIte,reduceSub,reduceAdd,reduceLeDiff,reduceCtorEq]
    refine ⟨⟨by omega,by omega⟩,⟨by omega,by omega⟩,⟨by omega,by omega⟩,hR _ (i+1) ⟨by omega,takeX_succ i2 hil (by omega) (of_decide_eq_true hx)⟩ (by omega) rfl⟩
  ·have c1:decide ((i:Int)<(fs.length:Int))=false:=decide_eq_false (by omega)
   have e1:fs=fs2:=by
    rw [List.take_of_length_le (by omega),List.take_of_length_le (by omega)] at i2; exact i2
   have e:decide (fs=fs2)=true:=decide_eq_true e1
   rw [e]
   simp only [b_rgsame_1,t_rgsame_0,r_rgsame,c1,List.length_map,go_sem,reduceDiv,reduceMod,↓reduceIte,reduceSub,reduceAdd,reduceLeDiff,reduceCtorEq]
 ·cases hs
open Go.Lib (index hasPrefix trimPrefix cut indexAny itoa)
def com0Z:AV:=.agg (comPs z20L (.sl 1 []) who0 who0 (.sl 1 []) [])
noncomputable def rparZR (s:List UInt8) (pr:Prop):Option Ret:=if parB11 s=true then some ⟨.tup [comZ 20 (parC11 s),.bool true],[],pr⟩ else some ⟨.tup [com0Z,.bool false],[],pr⟩
noncomputable def rparZ:Spec:=fun xs hp=>match xs,hp with
 | [.str s],[]=>rparZR s (s.length≤10000)
 | _,_=>none
theorem rparZ_ok:FnOk Tryz.prog 40 rparZ:=rpar_ok.freezeD fun xs hp r' hs hp' => by
 unfold rparZ at hs
 split at hs
 ·rename_i s
  unfold rparZR at hs
  cases h:parB11 s with
  | true =>
   rw [if_pos h] at hs
   injection hs with hs; subst hs
   have hpr:s.length≤10000:=hp'
   refine ⟨rfl,_,by show rparR _ _ _=_; unfold rparR; rw [← par_iff,h,par_eq h,if_pos rfl],hpr,rfl,?_,rfl,rfl⟩
   simp [fzV,fzD,comZ,comPs]
  | false =>
   rw [if_neg (by rw [h]; simp)] at hs
   injection hs with hs; subst hs
   have hpr:s.length≤10000:=hp'
   refine ⟨rfl,_,by show rparR _ _ _=_; unfold rparR; rw [← par_iff,h,if_neg Bool.false_ne_true],hpr,rfl,?_,rfl,rfl⟩
   simp [fzV,fzD,com0Z,com0,comPs]
 ·cases hs
def chgR (n:Nat) (c:ComL):Prop:=n≤10000∧ofPre n c
noncomputable def rchgR (n:Nat) (c:ComL) (pr:Prop):Option Ret:=if of1 n c=true then some ⟨chgZ ((obF n).1 c),[],pr⟩ else
  some ⟨.agg (chgN (c.author.name ++ [32,60] ++ c.author.mail ++ [62]) c.author.time 0 (.own 0 0) c.message),[.row 63 2 0 [exV (gitW,bodyC ⟨zr20,[],c.author,c.committer,c.extras,[]⟩)]],pr⟩
noncomputable def rchgS0 (n:Nat):Spec:=fun xs hp=>match xs,hp with
 | [.agg [(20,.blob t),(1,.sl kq ps),(1,.str an),(1,.str am),(1,.int .i64 at'),(1,.str az),(1,.str cn),(1,.str cm),(1,.int .i64 ct),(1,.str cz),(1,.sl ke es),(1,.str m)]],[] =>
  rchgR n ⟨zr20,[],⟨an,am,at',az⟩,⟨cn,cm,ct,cz⟩,es.map unEx,m⟩ (argC t kq ps ke es∧chgR n ⟨zr20,[],⟨an,am,at',az⟩,⟨cn,cm,ct,cz⟩,es.map unEx,m⟩)
 | _,_=>none
noncomputable def rchgS (n:Nat):Spec:=fun xs hp=>match xs,hp with
 | [.agg [(20,.blob t),(1,.sl kq ps),(1,.str an),(1,.str am),(1,.int .i64 at'),(1,.str az),(1,.str cn),(1,.str cm),(1,.int .i64 ct),(1,.str cz),(1,.sl ke es),(1,.str m)]],[] =>
  some ⟨chgZ ((obF n).1 ⟨zr20,[],⟨an,am,at',az⟩,⟨cn,cm,ct,cz⟩,es.map unEx,m⟩),[],argC t kq ps ke es∧chgR n ⟨zr20,[],⟨an,am,at',az⟩,⟨cn,cm,ct,cz⟩,es.map unEx,m⟩⟩
 | _,_=>none
def comR (n:Nat) (x:ChgL):Prop:=n≤10000∧bkPre n x
noncomputable def rcomS (n:Nat):Spec:=fun xs hp=>match xs,hp with
 | [.agg [(20,.blob m),(1,.str u),(1,.int .i64 t),(1,.int .i64 z),(1,.sl ke es),(1,.sl kf fs),(1,.str d)]],[] =>
  some ⟨comZ (bkK n ⟨zr20,u,t,z,es.map unEx,[],d⟩) ((obF n).2 ⟨zr20,u,t,z,es.map unEx,[],d⟩),[],argG m ke es kf fs∧comR n ⟨zr20,u,t,z,es.map unEx,[],d⟩⟩
 | _,_=>none
noncomputable def rchgP:Nat→Spec
 | 0=>fun _ _=>none
 | n+1=>rchgS n
noncomputable def rcomP:Nat→Spec
 | 0=>fun _ _=>none
 | n+1=>rcomS n
theorem rchgR_pre {n:Nat} {c:ComL} {pr:Prop} {r:Ret} (h:rchgR n c pr=some r) (hr:r.pre):pr:=by
 unfold rchgR at h
 split at h <;> (injection h with h; subst h; exact hr)
theorem rchgR_f {n:Nat} {c:ComL} (h:of1 n c=false) (pr:Prop):rchgR n c pr =
  some ⟨.agg (chgN (c.author.name ++ [32,60] ++ c.author.mail ++ [62]) c.author.time 0 (.own 0 0) c.message),[.row 63 2 0 [exV (gitW,bodyC ⟨zr20,[],c.author,c.committer,c.extras,[]⟩)]],pr⟩:=by
 unfold rchgR; rw [h]; rfl
theorem of1_told {n:Nat} {c:ComL} {k v:List UInt8} (ho:only1 c.extras=some (k,v)) (hh:k=hgW∧spkB v c.message=true∧(obF n).2 (spkC v c.message)=c):of1 (n+1) c=true:=by
 rw [of1_s]; unfold ofB; rw [ho]; simp only [decide_eq_true_eq]; exact hh
set_option maxHeartbeats 8000000 in
set_option maxRecDepth 8000 in
theorem rchg_tail {Φ:Phi} (P4:Φ 24=some ([],rprnS)) {an am:List UInt8} {at' : Int} {az cn cm:List UInt8} {ct:Int} {cz:List UInt8} {ke:Nat} {es:List ExL} {m:List UInt8} {pr:Prop} (q5:ke=2∨es.map exV=[])
  (hsz:sizeOkC ⟨zr20,[],⟨an,am,at',az⟩,⟨cn,cm,ct,cz⟩,es,[]⟩) (hia:inI at') (hic:inI ct) :
  ZW Φ 0 k_rchg_3 (retQ2 r_rchg 0 ⟨.agg (chgN (an ++ [32,60] ++ am ++ [62]) at' 0 (.own 0 0) m),[.row 63 2 0 [exV (gitW,bodyC ⟨zr20,[],⟨an,am,at',az⟩,⟨cn,cm,ct,cz⟩,es,[]⟩)]],pr⟩)
   (ofS ⟨[(1,.ref 0 0 0),(2,.ref 1 0 0)],[.cells 28 [(20,.blob (zr20.map U)),(1,.con (.slice none 0 0)),(1,.str an),(1,.str am),(1,.int .i64 at'),(1,.str az),(1,.str cn),(1,.str cm),(1,.int .i64 ct),(1,.str cz),(1,.sl ke (es.map exV)),(1,.str m)],
    .cells 49 [(20,.blob (List.replicate 20 (.int .u8 0))),(1,.str []),(1,.int .i64 0),(1,.int .i64 0),(1,.con (.slice none 0 0)),(1,.con (.slice none 0 0)),(1,.str [])]]⟩):=by
 obtain ⟨z1,z2,z3,z0,z4,z5,z6,z7⟩:=id hsz
 simp only at z6 z7
 have hszT:=eq_true hsz
 have hiaT:=eq_true hia
 have hicT:=eq_true hic
 refine .fin ?_
 simp only [k_rchg_3,r_rchg,P4,rprnS,hszT,hiaT,hicT,unV_U,unEx_map,chgN,exV,gitW,List.map_nil,go_sem,reduceDiv,reduceMod,↓reduceIte,reduceEqDiff,reduceSub,Nat.reduceLT,reduceAdd,reduceLeDiff,reduceCtorEq]
 (repeat' apply And.intro)
 all_goals first | omega | rfl | trivial | exact q5 | exact .inl trivial | exact .inr trivial | (first | omega | (simp only [lenOk,List.length_append,List.length_cons,List.length_nil]; omega)) | (intro p hp; cases hp; done) | skip
set_option maxHeartbeats 8000000 in
set_option maxRecDepth 8000 in
theorem rchg_step0 (n:Nat) (hB:FnOk Tryz.prog 22 (rcomP n)):FnOk Tryz.prog 16 (rchgS0 n):=by
 have hΦ:PhiOk Tryz.prog (phiL [(23,[],raloneS),(34,[],tspkS),(22,[],rcomP n),(17,[],rsameS),(24,[],rprnS)]) :=
  phi_cons ralone_ok (by kernel_rfl) (phi_cons rspk_ok (by kernel_rfl) (phi_cons hB (by kernel_rfl) (phi_cons rsame_ok (by kernel_rfl) (phi_cons rprn_ok (by kernel_rfl) phi_nil))))
 have P0:phiL [(23,[],raloneS),(34,[],tspkS),(22,[],rcomP n),(17,[],rsameS),(24,[],rprnS)] 23=some ([],raloneS):=rfl
 have P1:phiL [(23,[],raloneS),(34,[],tspkS),(22,[],rcomP n),(17,[],rsameS),(24,[],rprnS)] 34=some ([],tspkS):=rfl
 have P2:phiL [(23,[],raloneS),(34,[],tspkS),(22,[],rcomP n),(17,[],rsameS),(24,[],rprnS)] 22=some ([],rcomP n):=rfl
 have P3:phiL [(23,[],raloneS),(34,[],tspkS),(22,[],rcomP n),(17,[],rsameS),(24,[],rprnS)] 17=some ([],rsameS):=rfl
 have P4:phiL [(23,[],raloneS),(34,[],tspkS),(22,[],rcomP n),(17,[],rsameS),(24,[],rprnS)] 24=some ([],rprnS):=rfl
 generalize phiL [(23,[],raloneS),(34,[],tspkS),(22,[],rcomP n),(17,[],rsameS),(24,[],rprnS)]=Φ at hΦ P0 P1 P2 P3 P4
 refine fn_slimZ Tryz.func16 s_rchg hΦ ?_
 intro xs hp r hs hp'
 unfold rchgS0 at hs
 split at hs
 ·rename_i t kq ps an am at' az cn cm ct cz ke es m
  obtain ⟨⟨q1,q2,q3,q4,q5⟩,r0,-,-,r3,r4,r5⟩:=rchgR_pre hs hp'
  generalize es.map unEx=es at *
  subst q3
  simp only at r5
  refine ⟨len_le (by kernel_rfl),?_⟩
  have hsz:=szC_ok r3 r4
  have hel:es.length≤1000000:=hsz.2.2.2.2.1
  obtain ⟨r6,r7⟩:=id r4
  simp only at r7
  have hszT:sizeOkC ⟨zr20,[],⟨an,am,at',az⟩,⟨cn,cm,ct,cz⟩,es,[]⟩=True:=eq_true hsz
  have hia:inI at' := by
   obtain ⟨h,-,-⟩:=rightC_parts r3
   unfold rightW at h; simp only [Bool.and_eq_true,decide_eq_true_eq] at h; unfold inI; omega
  have hic:inI ct:=by
   obtain ⟨-,h,-⟩:=rightC_parts r3
   unfold rightW at h; simp only [Bool.and_eq_true,decide_eq_true_eq] at h; unfold inI; omega
  have hiaT:=eq_true hia
  have hicT:=eq_true hic
  have htl:∀ pr,_:=fun pr=>rchg_tail (m:=m) (pr:=pr) P4 q5 hsz hia hic
  unfold c_rchg
  refine .step ?_
  simp only [go_sem,reduceDiv,reduceMod,↓reduceIte,reduceAdd]
  refine .step ?_
  simp only [P0,raloneS,go_sem,reduceDiv,reduceMod,↓reduceIte,reduceSub,reduceAdd,reduceLeDiff,reduceCtorEq]
  refine .sub (.fin ?_)
  by_cases h1:es.length=1
  rotate_left
  ·have d1:decide ((es.length:Int)=1)=false:=decide_eq_false (by omega)
   have hn:of1 n ⟨zr20,[],⟨an,am,at',az⟩,⟨cn,cm,ct,cz⟩,es,m⟩=false:=of_not fun k v ho=>by simp only at ho; rw [len1_only h1] at ho; cases ho
   rw [rchgR_f hn] at hs
   injection hs with hs; subst hs
   simp only [r_rchg,d1,chgN,exV,gitW,List.length_map,go_sem,reduceDiv,reduceMod,↓reduceIte,reduceSub,reduceAdd,reduceLeDiff,reduceCtorEq]
   (repeat' apply And.intro); all_goals first | exact .kp [] [1,2] [0,1] _ rfl rfl rfl (htl _) | omega | rfl | trivial | exact q5 | exact .inl trivial | exact .inr trivial | (intro p hp; cases hp; done) | skip
  obtain ⟨⟨k,v⟩,rfl⟩:∃ x,es=[x]:=by
   match es,h1 with
   | [x],_=>exact ⟨x,rfl⟩
  have hk:ke=2:=q5.resolve_right (by intro h; cases h)
  subst hk
  have hvn:v.length≤n:=by simpa [mz] using r5
  cases h2:decide (k=[104,103]) with
  | false =>
   have hn:of1 n ⟨zr20,[],⟨an,am,at',az⟩,⟨cn,cm,ct,cz⟩,[(k,v)],m⟩=false:=of_not fun k' v' ho=>by
    simp only [only1,Option.some.injEq,Prod.mk.injEq] at ho
    obtain ⟨rfl,rfl⟩:=ho
    exact fun hh=>of_decide_eq_false h2 hh.1
   rw [rchgR_f hn] at hs
   injection hs with hs; subst hs
   simp only [r_rchg,h2,chgN,exV,gitW,go_sem,reduceDiv,reduceMod,↓reduceIte,reduceSub,reduceAdd,reduceLeDiff,reduceCtorEq,Int.reduceLT,Int.reduceLE,Int.reduceToNat]
   (repeat' apply And.intro); all_goals first | exact .kp [] [1,2] [0,1] _ rfl rfl rfl (htl _) | omega | rfl | trivial | exact q5 | exact .inl trivial | exact .inr trivial | (intro p hp; cases hp; done) | skip
  | true =>
   have hkk:k=hgW:=of_decide_eq_true h2
   subst hkk
   cases h3:spkB v m with
   | false =>
    have hn:of1 n ⟨zr20,[],⟨an,am,at',az⟩,⟨cn,cm,ct,cz⟩,[(hgW,v)],m⟩=false:=of_not fun k' v' ho=>by
     simp only [only1,Option.some.injEq,Prod.mk.injEq] at ho
     obtain ⟨rfl,rfl⟩:=ho
     intro hh
     have:=hh.2
     simp only at this
     rw [h3] at this; cases this
    rw [rchgR_f hn] at hs
    injection hs with hs; subst hs
    simp only [r_rchg,h2,h3,P1,tspkS,chgZ,chgN,exV,gitW,go_sem,reduceDiv,reduceMod,↓reduceIte,reduceSub,Nat.reduceLT,reduceAdd,reduceLeDiff,reduceCtorEq,Int.reduceLT,Int.reduceLE,Int.reduceToNat]
    (repeat' apply And.intro); all_goals first | exact .kp [] [1,2] [0,1] _ rfl rfl rfl (htl _) | omega | rfl | trivial | exact q5 | exact .inl trivial | exact .inr trivial | (intro p hp; cases hp; done) | skip
   | true =>
    have hmz:=spk_mz h3
    obtain ⟨n,rfl⟩:∃ j,n=j+1:=⟨n - 1,by omega⟩
    obtain ⟨f1,f2,-⟩:=spk_flags h3
    have hbr:=back_right n f1
    have hho:only1 [(hgW,v)]=some (hgW,v):=rfl
    have hbp:comR n (spkC v m):=⟨by omega,rfl,rfl,f1,⟨by rw [f2]; omega,r7⟩,by omega⟩
    have htold:=of_told (n:=n) (c:=⟨zr20,[],⟨an,am,at',az⟩,⟨cn,cm,ct,cz⟩,[(hgW,v)],m⟩) hho
    have htol1:=of1_told (n:=n) (c:=⟨zr20,[],⟨an,am,at',az⟩,⟨cn,cm,ct,cz⟩,[(hgW,v)],m⟩) hho
    have hunl:=of_unlike (n:=n) (c:=⟨zr20,[],⟨an,am,at',az⟩,⟨cn,cm,ct,cz⟩,[(hgW,v)],m⟩) hho
    simp only at htold hunl htol1
    obtain ⟨xu,xt,xz,xe,hx⟩:∃ xu xt xz xe,spkC v m=⟨zr20,xu,xt,xz,xe,[],m⟩:=⟨_,_,_,_,rfl⟩
    rw [hx] at hbr hbp htold hunl htol1
    obtain ⟨b,hb⟩:∃ b,(obF n).2 ⟨zr20,xu,xt,xz,xe,[],m⟩=b:=⟨_,rfl⟩
    have hbl:=bkx_len n ⟨zr20,xu,xt,xz,xe,[],m⟩
    rw [hb] at hbr htold hunl htol1 hbl
    obtain ⟨bt,bp,⟨ban,bam,bat,baz⟩,⟨bcn,bcm,bct,bcz⟩,be,bm⟩:=b
    obtain ⟨-,hb1,hb2⟩:=hbr
    simp only at hb1 hb2 hbl
    subst hb1 hb2
    have hwc:=words_cnt hbp.2.2.2.2.1.1
    simp only at hwc
    have hbpT:=eq_true hbp
    have h20:(zr20:List UInt8).length=20:=rfl
    cases h4:sameC ⟨zr20,[],⟨ban,bam,bat,baz⟩,⟨bcn,bcm,bct,bcz⟩,be,bm⟩ ⟨zr20,[],⟨an,am,at',az⟩,⟨cn,cm,ct,cz⟩,[(hgW,v)],m⟩ with
    | false =>
     have hn:=hunl fun e=>by rw [sameC_iff.2 e] at h4; cases h4
     rw [rchgR_f hn] at hs
     injection hs with hs; subst hs
     simp only [r_rchg,h2,h3,h4,h20,hx,hb,hbpT,P1,P2,P3,tspkS,rcomP,rcomS,rsameS,comZ,comPs,argG,unV_U,unEx_map,unEx_ag,chgZ,chgN,exV,gitW,List.length_map,List.map_nil,List.map_cons,go_sem,reduceDiv,reduceMod,↓reduceIte,reduceEqDiff,reduceSub,Nat.reduceLT,reduceAdd,reduceLeDiff,reduceCtorEq,Int.reduceLT,Int.reduceLE,Int.reduceToNat]
     (repeat' apply And.intro); all_goals first | exact .kp [] [1,2] [0,1] _ rfl rfl rfl (htl _) | omega | rfl | trivial | exact q5 | exact .inl trivial | exact .inr trivial | (intro p hp; cases hp; done) | skip
    | true =>
     have hn:=htold ⟨trivial,h3,sameC_iff.1 h4⟩
     have hn1:=htol1 ⟨trivial,h3,sameC_iff.1 h4⟩
     unfold rchgR at hs
     rw [if_pos hn1,hn] at hs
     injection hs with hs; subst hs
     simp only [r_rchg,h2,h3,h4,h20,hx,hb,hbpT,P1,P2,P3,tspkS,rcomP,rcomS,rsameS,comZ,comPs,argG,unV_U,unEx_map,unEx_ag,chgZ,exV,List.length_map,List.map_nil,List.map_cons,go_sem,reduceDiv,reduceMod,↓reduceIte,reduceEqDiff,reduceSub,Nat.reduceLT,reduceAdd,reduceLeDiff,reduceCtorEq,Int.reduceLT,Int.reduceLE,Int.reduceToNat]
     (repeat' apply And.intro); all_goals first | omega | rfl | trivial | exact q5 | exact .inl trivial | exact .inr trivial | (intro p hp; cases hp; done) | skip
 ·cases hs
theorem rchg_step (n:Nat) (hB:FnOk Tryz.prog 22 (rcomP n)):FnOk Tryz.prog 16 (rchgS n):=(rchg_step0 n hB).freezeD fun xs hp r' hs hp' => by
 unfold rchgS at hs
 split at hs
 ·rename_i t kq ps an am at' az cn cm ct cz ke es m
  injection hs with hs; subst hs
  have hpr:argC t kq ps ke es∧chgR n ⟨zr20,[],⟨an,am,at',az⟩,⟨cn,cm,ct,cz⟩,es.map unEx,m⟩:=hp'
  cases hb:of1 n ⟨zr20,[],⟨an,am,at',az⟩,⟨cn,cm,ct,cz⟩,es.map unEx,m⟩ with
  | true =>
   refine ⟨rfl,_,by show rchgR n _ _=_; unfold rchgR; rw [if_pos hb],hpr,rfl,?_,rfl,rfl⟩
   simp [fzV,fzD,chgZ]
  | false =>
   refine ⟨rfl,_,by show rchgR n _ _=_; rw [rchgR_f hb],hpr,rfl,?_,rfl,rfl⟩
   rw [of_plain hb]
   simp [fzV,fzD,chgZ,chgN,plainH]
 ·cases hs
end Go.Proofs.YtgaehhechonegaaGreatDoor
