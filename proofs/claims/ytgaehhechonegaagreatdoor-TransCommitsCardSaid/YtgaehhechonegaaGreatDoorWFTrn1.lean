import Derived.Test.YtgaehhechonegaaGreatDoorWLinLaw
import Derived.Test.YtgaehhechonegaaGreatDoorWTrnCode
import Derived.Test.YtgaehhechonegaaGreatDoorWShaParse
import Derived.Test.YtgaehhechonegaaGreatDoorWChgCode
import Derived.Test.YtgaehhechonegaaGreatDoorWFRight
import Derived.Test.YtgaehhechonegaaGreatDoorWFZone
import Derived.Test.YtgaehhechonegaaGreatDoorWRComCode
import Derived.Test.YtgaehhechonegaaGreatDoorWFRFDec
import Derived.Test.YtgaehhechonegaaGreatDoorWFCom1
import Derived.Test.YtgaehhechonegaaGreatDoorChecked
import Derived.Test.YtgaehhechonegaaGreatDoorWAMS
open Nat (reduceDiv reduceMod reduceSub reduceAdd reduceLeDiff reduceEqDiff)
set_option linter.all false
namespace Go.Proofs.YtgaehhechonegaaGreatDoor
open Go.RowKit
open Go.Lib (index hasPrefix trimPrefix cut indexAny itoa)
def seqS:Spec:=fun xs hp=>match xs,hp with
 | [.sl ka xa,.sl kb xb],[]=>some ⟨.bool (decide (xa.map unEx=xb.map unEx)),[],xa=(xa.map unEx).map exV∧xb=(xb.map unEx).map exV∧(ka=2∨xa=[])∧(kb=2∨xb=[])∧xa.length≤1000000∧xb.length≤1000000⟩
 | _,_=>none
theorem takeY_succ {α:Type} {l m:List α} {i:Nat} (h:l.take i=m.take i) (hi:i<l.length) (hj:i<m.length) (e:l[i]=m[i]):l.take (i+1)=m.take (i+1):=by
 rw [List.take_add_one,List.take_add_one,h,List.getElem?_eq_getElem hi,List.getElem?_eq_getElem hj,e]
set_option maxHeartbeats 2000000 in
theorem seqC_ok:FnOk Tryz.prog 85 seqS:=by
 refine fn_slim2 Tryz.func85 s_seqC (Φ:=phiL []) phi_nil ?_
 intro xs hp r hs hp'
 unfold seqS at hs
 split at hs
 ·injection hs with hs; subst hs
  rename_i ka xa kb xb
  obtain ⟨q1,q2,q3,q4,q5,q6⟩:=hp'
  generalize xa.map unEx=es at *
  subst q1
  generalize xb.map unEx=es2 at *
  subst q2
  rw [List.length_map] at q5 q6
  refine ⟨len_le (by kernel_rfl),?_⟩
  by_cases h6:es.length=es2.length
  rotate_left
  ·have d6:decide ((es.length:Int)=(es2.length:Int))=false:=decide_eq_false (by omega)
   have e:decide (es=es2)=false:=decide_eq_false (by rintro rfl; exact h6 rfl)
   simp only [c_seqC,r_seqC,d6,e,List.length_map,go_sem,reduceDiv,reduceMod,↓reduceIte,reduceAdd]
  have d6:decide ((es.length:Int)=(es2.length:Int))=true:=decide_eq_true (by omega)
  simp only [c_seqC,d6,List.length_map,go_sem,reduceDiv,reduceMod,↓reduceIte,reduceAdd]
  refine loop2P (m:=0) [] [0,1,12,13] [] (fun i:Nat=>⟨[(0,.sl ka (es.map exV)),(1,.sl kb (es2.map exV)),(12,.int .i64 (es.length:Int)),(13,.int .i64 (i:Int))],[]⟩)
   (fun i=>i≤es.length∧es.take i=es2.take i) (fun i=>es.length - i) 0 rfl ⟨Nat.zero_le _,by simp⟩ ⟨rfl,by rfl⟩ (fun j hj R hR=>?_)
  obtain ⟨j1,j2⟩:=hj
  by_cases hjl:j<es.length
  ·have c1:decide ((j:Int)<(es.length:Int))=true:=decide_eq_true (by omega)
   have hk:ka=2:=q3.resolve_right (by intro h; have:=congrArg List.length h; simp at this; rw [this] at hjl; simp at hjl)
   have hk2:kb=2:=q4.resolve_right (by intro h; have:=congrArg List.length h; simp at this; rw [this] at h6; simp at h6; rw [h6] at hjl; simp at hjl)
   subst hk hk2
   have hget:=getD_map exV es ([],[]) (.agg [(1,(.str [])),(1,(.str []))]) hjl
   have hga:es.getD j ([],[])=es[j]:=by simp [List.getD_eq_getElem?_getD,List.getElem?_eq_getElem hjl]
   have hget2:=getD_map exV es2 ([],[]) (.agg [(1,(.str [])),(1,(.str []))]) (show j<es2.length by omega)
   have hga2:es2.getD j ([],[])=es2[j]:=by simp [List.getD_eq_getElem?_getD,List.getElem?_eq_getElem (show j<es2.length by omega)]
   have hpe:(decide (es[j].1=es2[j].1) && decide (es[j].2=es2[j].2))=decide (es[j]=es2[j]):=by
    rw [Bool.eq_iff_iff]; simp [Prod.ext_iff]
   cases hx:decide (es[j]=es2[j]) with
   | false =>
    have e:decide (es=es2)=false:=decide_eq_false (by rintro rfl; exact (of_decide_eq_false hx) rfl)
    rw [e]
    simp only [b_seqC_0,r_seqC,c1,hget,hga,hget2,hga2,exV,hpe,hx,Int.toNat_natCast,List.length_map,go_sem,reduceDiv,reduceMod,↓reduceIte,reduceSub,reduceLeDiff,reduceCtorEq]
    repeat' apply And.intro
    all_goals first | omega | rfl | trivial | skip
   | true =>
    simp only [b_seqC_0,r_seqC,c1,hget,hga,hget2,hga2,exV,hpe,hx,Int.toNat_natCast,List.length_map,go_sem,reduceDiv,reduceMod,↓reduceIte,reduceSub,reduceLeDiff,reduceCtorEq]
    (repeat' apply And.intro)
    all_goals first | omega | skip
    exact hR _ (j+1) ⟨by omega,takeY_succ j2 hjl (by omega) (of_decide_eq_true hx)⟩ (by omega) rfl
  ·have c1:decide ((j:Int)<(es.length:Int))=false:=decide_eq_false (by omega)
   have e1:es=es2:=by
    rw [List.take_of_length_le (by omega),List.take_of_length_le (by omega)] at j2; exact j2
   have e:decide (es=es2)=true:=decide_eq_true e1
   rw [e]
   simp only [b_seqC_0,t_seqC_0,r_seqC,c1,go_sem,reduceDiv,reduceMod,↓reduceIte]
 ·cases hs
set_option maxHeartbeats 2000000 in
theorem seqH_ok:FnOk Tryz.prog 96 seqS:=by
 refine fn_slim2 Tryz.func96 s_seqH (Φ:=phiL []) phi_nil ?_
 intro xs hp r hs hp'
 unfold seqS at hs
 split at hs
 ·injection hs with hs; subst hs
  rename_i ka xa kb xb
  obtain ⟨q1,q2,q3,q4,q5,q6⟩:=hp'
  generalize xa.map unEx=es at *
  subst q1
  generalize xb.map unEx=es2 at *
  subst q2
  rw [List.length_map] at q5 q6
  refine ⟨len_le (by kernel_rfl),?_⟩
  by_cases h6:es.length=es2.length
  rotate_left
  ·have d6:decide ((es.length:Int)=(es2.length:Int))=false:=decide_eq_false (by omega)
   have e:decide (es=es2)=false:=decide_eq_false (by rintro rfl; exact h6 rfl)
   simp only [c_seqH,r_seqH,d6,e,List.length_map,go_sem,reduceDiv,reduceMod,↓reduceIte,reduceAdd]
  have d6:decide ((es.length:Int)=(es2.length:Int))=true:=decide_eq_true (by omega)
  simp only [c_seqH,d6,List.length_map,go_sem,reduceDiv,reduceMod,↓reduceIte,reduceAdd]
  refine loop2P (m:=0) [] [0,1,12,13] [] (fun i:Nat=>⟨[(0,.sl ka (es.map exV)),(1,.sl kb (es2.map exV)),(12,.int .i64 (es.length:Int)),(13,.int .i64 (i:Int))],[]⟩)
   (fun i=>i≤es.length∧es.take i=es2.take i) (fun i=>es.length - i) 0 rfl ⟨Nat.zero_le _,by simp⟩ ⟨rfl,by rfl⟩ (fun j hj R hR=>?_)
  obtain ⟨j1,j2⟩:=hj
  by_cases hjl:j<es.length
  ·have c1:decide ((j:Int)<(es.length:Int))=true:=decide_eq_true (by omega)
   have hk:ka=2:=q3.resolve_right (by intro h; have:=congrArg List.length h; simp at this; rw [this] at hjl; simp at hjl)
   have hk2:kb=2:=q4.resolve_right (by intro h; have:=congrArg List.length h; simp at this; rw [this] at h6; simp at h6; rw [h6] at hjl; simp at hjl)
   subst hk hk2
   have hget:=getD_map exV es ([],[]) (.agg [(1,(.str [])),(1,(.str []))]) hjl
   have hga:es.getD j ([],[])=es[j]:=by simp [List.getD_eq_getElem?_getD,List.getElem?_eq_getElem hjl]
   have hget2:=getD_map exV es2 ([],[]) (.agg [(1,(.str [])),(1,(.str []))]) (show j<es2.length by omega)
   have hga2:es2.getD j ([],[])=es2[j]:=by simp [List.getD_eq_getElem?_getD,List.getElem?_eq_getElem (show j<es2.length by omega)]
   have hpe:(decide (es[j].1=es2[j].1) && decide (es[j].2=es2[j].2))=decide (es[j]=es2[j]):=by
    rw [Bool.eq_iff_iff]; simp [Prod.ext_iff]
   cases hx:decide (es[j]=es2[j]) with
   | false =>
    have e:decide (es=es2)=false:=decide_eq_false (by rintro rfl; exact (of_decide_eq_false hx) rfl)
    rw [e]
    simp only [b_seqH_0,r_seqH,c1,hget,hga,hget2,hga2,exV,hpe,hx,Int.toNat_natCast,List.length_map,go_sem,reduceDiv,reduceMod,↓reduceIte,reduceSub,reduceLeDiff,reduceCtorEq]
    repeat' apply And.intro
    all_goals first | omega | rfl | trivial | skip
   | true =>
    simp only [b_seqH_0,r_seqH,c1,hget,hga,hget2,hga2,exV,hpe,hx,Int.toNat_natCast,List.length_map,go_sem,reduceDiv,reduceMod,↓reduceIte,reduceSub,reduceLeDiff,reduceCtorEq]
    (repeat' apply And.intro)
    all_goals first | omega | skip
    exact hR _ (j+1) ⟨by omega,takeY_succ j2 hjl (by omega) (of_decide_eq_true hx)⟩ (by omega) rfl
  ·have c1:decide ((j:Int)<(es.length:Int))=false:=decide_eq_false (by omega)
   have e1:es=es2:=by
    rw [List.take_of_length_le (by omega),List.take_of_length_le (by omega)] at j2; exact j2
   have e:decide (es=es2)=true:=decide_eq_true e1
   rw [e]
   simp only [b_seqH_0,t_seqH_0,r_seqH,c1,go_sem,reduceDiv,reduceMod,↓reduceIte]
 ·cases hs
def sacB (c d:ComL):Bool:=sameW c.author d.author && (sameW c.committer d.committer && (decide (c.message=d.message) && decide (c.extras=d.extras)))
theorem sacB_eq {c d:ComL} (h1:c.tree=d.tree) (h2:c.parents=d.parents):sacB c d=true↔c=d:=by
 cases c; cases d; simp only at h1 h2; subst h1 h2
 simp [sacB,sameW_iff]
 intros; exact and_comm
def tsamCS:Spec:=fun xs hp=>match xs,hp with
  | [.agg [(20, .blob t), (1, .sl _ _), (1, .str an), (1, .str am), (1, .int .i64 at'), (1, .str az), (1, .str cn), (1, .str cm), (1, .int .i64 ct), (1, .str cz), (1, .sl ke es), (1, .str m)],
     .agg [(20,.blob t2),(1,.sl _ _),(1,.str an2),(1,.str am2),(1,.int .i64 at2),(1,.str az2),(1,.str cn2),(1,.str cm2),(1,.int .i64 ct2),(1,.str cz2),(1,.sl ke2 es2),(1,.str m2)]],[] =>
    some ⟨.bool (sacB ⟨[],[],⟨an,am,at',az⟩,⟨cn,cm,ct,cz⟩,es.map unEx,m⟩ ⟨[],[],⟨an2,am2,at2,az2⟩,⟨cn2,cm2,ct2,cz2⟩,es2.map unEx,m2⟩),[],
      es=(es.map unEx).map exV∧es2=(es2.map unEx).map exV∧(ke=2∨es=[])∧(ke2=2∨es2=[])∧es.length≤1000000∧es2.length≤1000000⟩
  | _,_=>none
set_option maxHeartbeats 2000000 in
theorem tsamC_ok:FnOk Tryz.prog 55 tsamCS:=by
 refine fn_slim2 Tryz.func55 s_tsamC (Φ:=phiL [(85,[],seqS)]) (phi_cons seqC_ok (by kernel_rfl) phi_nil) ?_
 intro xs hp r hs hp'
 unfold tsamCS at hs
 split at hs
 ·injection hs with hs; subst hs
  rename_i t kq ps an am at' az cn cm ct cz ke es m t2 kq2 ps2 an2 am2 at2 az2 cn2 cm2 ct2 cz2 ke2 es2 m2
  refine ⟨len_le (by kernel_rfl),?_⟩
  have hsa:(decide (an=an2) && (decide (am=am2) && (decide (at' = at2) && decide (az=az2))))=sameW ⟨an,am,at',az⟩ ⟨an2,am2,at2,az2⟩:=by unfold sameW; simp only [Bool.and_true]
  have hsc:(decide (cn=cn2) && (decide (cm=cm2) && (decide (ct=ct2) && decide (cz=cz2))))=sameW ⟨cn,cm,ct,cz⟩ ⟨cn2,cm2,ct2,cz2⟩:=by unfold sameW; simp only [Bool.and_true]
  unfold sacB
  simp only
  cases h2:sameW ⟨an,am,at',az⟩ ⟨an2,am2,at2,az2⟩ with
  | false=>simp only [c_tsamC,r_tsamC,hsa,h2,Bool.false_and,go_sem,reduceDiv,reduceMod,↓reduceIte,reduceSub,reduceAdd,reduceLeDiff,reduceCtorEq]
  | true =>
  cases h3:sameW ⟨cn,cm,ct,cz⟩ ⟨cn2,cm2,ct2,cz2⟩ with
  | false=>simp only [c_tsamC,r_tsamC,hsa,hsc,h2,h3,Bool.false_and,Bool.true_and,go_sem,reduceDiv,reduceMod,↓reduceIte,reduceSub,reduceAdd,reduceLeDiff,reduceCtorEq]
  | true =>
  cases h4:decide (m=m2) with
  | false=>simp only [c_tsamC,r_tsamC,hsa,hsc,h2,h3,h4,Bool.false_and,Bool.true_and,go_sem,reduceDiv,reduceMod,↓reduceIte,reduceSub,reduceAdd,reduceLeDiff,reduceCtorEq]
  | true =>
   simp only [c_tsamC,r_tsamC,hsa,hsc,h2,h3,h4,seqS,Bool.true_and,go_sem,reduceDiv,reduceMod,↓reduceIte,reduceSub,reduceAdd,reduceLeDiff,reduceCtorEq]
   exact hp'
 ·cases hs
def sahB (c d:ChgL):Bool:=decide (c.user=d.user) && (decide (c.time=d.time) && (decide (c.zone=d.zone) && (decide (c.desc=d.desc) && decide (c.extras=d.extras))))
theorem sahB_eq {c d:ChgL} (h1:c.man=d.man) (h2:c.files=d.files):sahB c d=true↔c=d:=by
 cases c; cases d; simp only at h1 h2; subst h1 h2
 simp [sahB]
 intros; exact and_comm
def tsamHS:Spec:=fun xs hp=>match xs,hp with
 | [.agg [(20,.blob m),(1,.str u),(1,.int .i64 t),(1,.int .i64 z),(1,.sl ke es),(1,.sl _ _),(1,.str d)],.agg [(20,.blob m2),(1,.str u2),(1,.int .i64 t2),(1,.int .i64 z2),(1,.sl ke2 es2),(1,.sl _ _),(1,.str d2)]],[] =>
  some ⟨.bool (sahB ⟨[],u,t,z,es.map unEx,[],d⟩ ⟨[],u2,t2,z2,es2.map unEx,[],d2⟩),[],es=(es.map unEx).map exV∧es2=(es2.map unEx).map exV∧(ke=2∨es=[])∧(ke2=2∨es2=[])∧es.length≤1000000∧es2.length≤1000000⟩
 | _,_=>none
set_option maxHeartbeats 2000000 in
theorem tsamH_ok:FnOk Tryz.prog 66 tsamHS:=by
 refine fn_slim2 Tryz.func66 s_tsamH (Φ:=phiL [(96,[],seqS)]) (phi_cons seqH_ok (by kernel_rfl) phi_nil) ?_
 intro xs hp r hs hp'
 unfold tsamHS at hs
 split at hs
 ·injection hs with hs; subst hs
  rename_i m u t z ke es kf fs d m2 u2 t2 z2 ke2 es2 kf2 fs2 d2
  refine ⟨len_le (by kernel_rfl),?_⟩
  unfold sahB
  simp only
  cases h1:decide (u=u2) with
  | false=>simp only [c_tsamH,r_tsamH,h1,Bool.false_and,go_sem,reduceDiv,reduceMod,↓reduceIte,reduceSub,reduceAdd,reduceCtorEq]
  | true =>
  cases h2:decide (t=t2) with
  | false=>simp only [c_tsamH,r_tsamH,h1,h2,Bool.false_and,Bool.true_and,go_sem,reduceDiv,reduceMod,↓reduceIte,reduceSub,reduceAdd,reduceLeDiff,reduceCtorEq]
  | true =>
  cases h3:decide (z=z2) with
  | false=>simp only [c_tsamH,r_tsamH,h1,h2,h3,Bool.false_and,Bool.true_and,go_sem,reduceDiv,reduceMod,↓reduceIte,reduceSub,reduceAdd,reduceLeDiff,reduceCtorEq]
  | true =>
  cases h4:decide (d=d2) with
  | false=>simp only [c_tsamH,r_tsamH,h1,h2,h3,h4,Bool.false_and,Bool.true_and,go_sem,reduceDiv,reduceMod,↓reduceIte,reduceSub,reduceAdd,reduceLeDiff,reduceCtorEq]
  | true =>
   simp only [c_tsamH,r_tsamH,h1,h2,h3,h4,seqS,Bool.true_and,go_sem,reduceDiv,reduceMod,↓reduceIte,reduceSub,reduceAdd,reduceLeDiff,reduceCtorEq]
   exact hp'
 ·cases hs
def taloneS:Spec:=fun xs hp=>match xs,hp with
 | [.agg [(20,.blob _),(1,.sl _ _),(1,.str an),(1,.str am),(1,.int .i64 at'),(1,.str az),(1,.str cn),(1,.str cm),(1,.int .i64 ct),(1,.str cz),(1,.sl ke es),(1,.str m)]],[] =>
  some ⟨.agg [(20,.blob (zr20.map U)),(1,.con (.slice none 0 0)),(1,.str an),(1,.str am),(1,.int .i64 at'),(1,.str az),(1,.str cn),(1,.str cm),(1,.int .i64 ct),(1,.str cz),(1,.sl ke es),(1,.str m)],[],True⟩
 | _,_=>none
theorem talone_ok:FnOk Tryz.prog 31 taloneS:=by
 refine fn_slim2 Tryz.func31 s_talone (Φ:=phiL []) phi_nil ?_
 intro xs hp r hs hp'
 unfold taloneS at hs
 split at hs
 ·injection hs with hs; subst hs
  refine ⟨len_le (by kernel_rfl),?_⟩
  simp only [c_talone,r_talone,go_sem,reduceDiv,reduceMod,↓reduceIte,reduceSub,reduceAdd,reduceLeDiff,reduceCtorEq]
  repeat' apply And.intro
  all_goals first | rfl | trivial
 ·cases hs
def townS:Spec:=fun xs hp=>match xs,hp with
 | [.agg [(20,.blob _),(1,.str u),(1,.int .i64 t),(1,.int .i64 z),(1,.sl ke es),(1,.sl _ _),(1,.str d)]],[] =>
  some ⟨.agg [(20,.blob (zr20.map U)),(1,.str u),(1,.int .i64 t),(1,.int .i64 z),(1,.sl ke es),(1,.con (.slice none 0 0)),(1,.str d)],[],True⟩
 | _,_=>none
theorem town_ok:FnOk Tryz.prog 35 townS:=by
 refine fn_slim2 Tryz.func35 s_town (Φ:=phiL []) phi_nil ?_
 intro xs hp r hs hp'
 unfold townS at hs
 split at hs
 ·injection hs with hs; subst hs
  refine ⟨len_le (by kernel_rfl),?_⟩
  simp only [c_town,r_town,go_sem,reduceDiv,reduceMod,↓reduceIte,reduceSub,reduceAdd,reduceLeDiff,reduceCtorEq]
  repeat' apply And.intro
  all_goals first | rfl | trivial
 ·cases hs
noncomputable def tnumS:Spec:=fun xs hp=>match xs,hp with
 | [.str s],[]=>some ⟨.int .i64 (nmV s),[],s.length≤1000000⟩
 | _,_=>none
theorem timeN_decN (s:List UInt8):timeN s=(decN s:Int):=by
 unfold timeN
 cases h:decB s with
 | true=>rfl
 | false=>rw [decN_f (decB_f h)]; rfl
set_option maxHeartbeats 2000000 in
theorem tnum_ok:FnOk Tryz.prog 83 tnumS:=by
 refine fn_slim2 Tryz.func83 s_tnum (Φ:=phiL [(105,[],cutPreS),(106,[],fdecT)]) (phi_cons cutPre_ok (by kernel_rfl) (phi_cons fdecT_ok (by kernel_rfl) phi_nil)) ?_
 intro xs hp r hs hp'
 unfold tnumS at hs
 split at hs
 ·injection hs with hs; subst hs
  rename_i s
  have p1:s.length≤1000000:=hp'
  refine ⟨len_le (by kernel_rfl),?_⟩
  have hph:=pre_head s
  have n2:=decN_lt (s.drop 1)
  cases h:decide (s.head?=some 45) with
  | true =>
   rw [h] at hph
   have e:nmV s = -(decN (s.drop 1):Int):=by unfold nmV; rw [if_pos (of_decide_eq_true h)]
   have et:trimPrefix s [45]=s.drop 1:=by unfold trimPrefix; rw [if_pos hph]; rfl
   have hl:(s.drop 1).length≤1000000:=by rw [List.length_drop]; omega
   simp only [c_tnum,r_tnum,cutPreS,fdecT,hph,et,e,timeN_decN,go_sem,reduceDiv,reduceMod,↓reduceIte,reduceEqDiff,Nat.reduceLT,reduceAdd]
   repeat' apply And.intro
   all_goals first | omega | rfl | trivial | skip
  | false =>
   rw [h] at hph
   have e:nmV s=(decN s:Int):=by unfold nmV; rw [if_neg (of_decide_eq_false h)]
   have et:trimPrefix s [45]=s:=by unfold trimPrefix; rw [if_neg (by rw [hph]; simp)]
   simp only [c_tnum,r_tnum,cutPreS,fdecT,hph,et,e,timeN_decN,go_sem,reduceDiv,reduceMod,↓reduceIte,reduceEqDiff,Nat.reduceLT,reduceAdd]
   repeat' apply And.intro
   all_goals first | omega | rfl | trivial | skip
 ·cases hs
open Go.Lib (index hasPrefix cut indexAny itoa decDigits)
def wExt (es:List ExL):Nat:=(es.map fun x=>x.1.length+x.2.length+2).sum
theorem wExt_app (a b:List ExL):wExt (a ++ b)=wExt a+wExt b:=by simp [wExt]
theorem flat_par (ps:List (List UInt8)) (h:∀ p∈ps,p.length=20):(ps.flatMap parL).length=48 * ps.length:=by
 induction ps with
 | nil=>rfl
 | cons p ps ih =>
  have h1:=h p (List.mem_cons_self ..)
  have h2:=hexL_length p
  rw [List.flatMap_cons,List.length_append,ih fun q hq=>h q (List.mem_cons_of_mem _ hq)]
  simp only [parL,List.length_append,List.length_cons,List.length_nil]; omega
theorem flat_ex (es:List ExL):(es.flatMap exL).length≤3 * wExt es:=by
 induction es with
 | nil=>simp
 | cons x es ih =>
  have h2:=subst1_len 10 [10,32] x.2
  rw [List.flatMap_cons,List.length_append]
  simp only [exL,wExt,List.map_cons,List.sum_cons,List.length_append,List.length_cons,List.length_nil] at ih h2 ⊢; omega
theorem mem_w (es:List ExL) (x:ExL) (h:x∈es):x.1.length+x.2.length≤wExt es:=by
 induction es with
 | nil=>cases h
 | cons y es ih =>
  simp only [wExt,List.map_cons,List.sum_cons] at ih ⊢
  rcases List.mem_cons.1 h with rfl | h
  ·omega
  ·have:=ih h; omega
theorem textW_le {w:WhoL} (h:inI w.time):(textW w).length≤w.name.length+w.mail.length+w.zone.length+26:=by
 have:=Lib.itoa_length_le w.time h.1 h.2
 simp only [textW,List.length_append,List.length_cons,List.length_nil]
 omega
theorem wExt_le (es:List ExL) (h:∀ x∈es,x.1.length≤200∧x.2.length≤200):wExt es≤402 * es.length:=by
 induction es with
 | nil=>simp [wExt]
 | cons x es ih =>
  have h1:=h x (List.mem_cons_self ..)
  have h2:=ih fun y hy=>h y (List.mem_cons_of_mem _ hy)
  simp only [wExt,List.map_cons,List.sum_cons,List.length_cons] at h2 ⊢; omega
theorem par_cnt {s:List UInt8} (h:parB11 s=true):(parC11 s).parents.length≤s.length∧(parC11 s).extras.length≤s.length:=by
 obtain ⟨h1,h2⟩:=body_com h
 obtain ⟨h3,h4⟩:=parC11_len s
 have l1:=flat_par _ h4
 have l2:(parC11 s).extras.length≤((parC11 s).extras.flatMap exL).length:=by
  generalize (parC11 s).extras=es
  induction es with
  | nil=>simp
  | cons x es ih =>
   rw [List.flatMap_cons,List.length_append,List.length_cons]
   simp only [exL,List.length_append,List.length_cons,List.length_nil] at ih ⊢; omega
 have:=congrArg List.length h2
 rw [bodyC_shape] at this
 simp only [List.length_append,List.length_cons] at this
 omega
theorem parR11_t {s:List UInt8} {c:ComL} (h:parB11 s=true) (hv:parC11 s=c) (pr:Prop):parR11 (parC11 s) (parB11 s) pr =
  some ⟨.tup [.agg (comPs c.tree (.own 0 c.parents.length) c.author c.committer (.own 1 c.extras.length) c.message),.int .i64 0],[.row 29 20 c.parents.length (c.parents.map idAV),.row 69 2 c.extras.length (c.extras.map exV)],pr⟩:=by
 unfold parR11; rw [h,hv]; rfl
theorem parR11_f {s:List UInt8} (h:parB11 s=false) (pr:Prop):parR11 (parC11 s) (parB11 s) pr=some ⟨.tup [.agg com0,.int .i64 4],[],pr⟩:=by
 unfold parR11; rw [h]; rfl
theorem sub_len (c:UInt8) (s:List UInt8):s.length≤(subst1 10 [10,32] s).length:=by
 unfold subst1
 induction s with
 | nil=>simp
 | cons z s ih =>
  rw [List.flatMap_cons,List.length_append,List.length_cons]
  have:1≤(if z=10 then [10,32] else [z]:List UInt8).length:=by split <;> simp
  omega
theorem ex_mem (es:List ExL) (x:ExL) (h:x∈es):x.1.length+x.2.length≤(es.flatMap exL).length:=by
 induction es with
 | nil=>cases h
 | cons y es ih =>
  rw [List.flatMap_cons,List.length_append]
  rcases List.mem_cons.1 h with rfl | h
  ·have:=sub_len 10 x.2
   simp only [exL,List.length_append,List.length_cons,List.length_nil]; omega
  ·have:=ih h; omega
theorem textW_ge (w:WhoL):w.name.length+w.mail.length+w.zone.length≤(textW w).length:=by
 simp only [textW,List.length_append,List.length_cons,List.length_nil]; omega
theorem par_size {s:List UInt8} (h:parB11 s=true) (hl:s.length≤100000):sizeOkC (parC11 s):=by
 obtain ⟨h1,h2⟩:=body_com h
 obtain ⟨h3,h4⟩:=parC11_len s
 obtain ⟨n1,n2⟩:=par_cnt h
 have l1:=textW_ge (parC11 s).author
 have l2:=textW_ge (parC11 s).committer
 have hb:=congrArg List.length h2
 refine ⟨by rw [h2]; omega,h3,h4,by omega,by omega,fun x hx=>?_,?_,?_⟩
 all_goals (rw [bodyC_shape] at hb; simp only [List.length_append,List.length_cons] at hb)
 ·have:=ex_mem _ x hx; omega
 ·omega
 ·omega
open Go.Lib (index hasPrefix cut indexAny itoa)
def phiPrn:Phi:=phiL [(46,[],textS),(47,[],cfeS),(51,[],hexS),(50,[],bwsS),(52,[],replS),(53,[],bstrS)]
theorem phiPrn_ok:PhiOk Tryz.prog phiPrn:=phi_cons ctext_ok (by kernel_rfl) (phi_cons cfe_ok (by kernel_rfl) (phi_cons hex_ok (by kernel_rfl) (phi_cons bws_ok (by kernel_rfl) (phi_cons repl_ok (by kernel_rfl) (phi_cons bstr_ok (by kernel_rfl) phi_nil)))))
theorem phiPrn_1:phiPrn 46=some ([],textS):=rfl
theorem phiPrn_2:phiPrn 47=some ([],cfeS):=rfl
theorem phiPrn_3:phiPrn 51=some ([],hexS):=rfl
theorem phiPrn_4:phiPrn 50=some ([],bwsS):=rfl
theorem phiPrn_5:phiPrn 52=some ([],replS):=rfl
theorem phiPrn_6:phiPrn 53=some ([],bstrS):=rfl
set_option maxHeartbeats 4000000 in
theorem prn_ok:FnOk Tryz.prog 29 prnS:=by
 refine fn_slim2 Tryz.func29 s_cprn phiPrn_ok ?_
 intro xs hp r hs hp'
 unfold prnS at hs
 split at hs
 ·rename_i t kq ps an am at' az cn cm ct cz ke es m
  obtain ⟨q1,q2,q3,q4,q5,q6⟩:=prnR_pre hs hp'
  generalize unV t=t at *
  subst q1
  generalize ps.map unId=ps at *
  subst q2
  generalize es.map unEx=es at *
  subst q3
  obtain ⟨z1,z2,z3,z0,z4,z5,z6,z7⟩:=q6
  simp only at z0 z1 z2 z3 z4 z5 z6 z7
  refine ⟨len_le (by kernel_rfl),?_⟩
  have hk:∀ x∈es,x.1.length<4294967281:=fun x hx=>by have:=(z5 x hx).1; omega
  simp only [c_cprn,phiPrn_1,textS,textR,go_sem,reduceDiv,reduceMod,↓reduceIte,reduceSub,Nat.reduceLT,reduceAdd,reduceLeDiff,reduceCtorEq]
  refine ⟨z6,z7,?_⟩
  generalize ha:textW ⟨an,am,at',az⟩=a at *
  generalize hb:textW ⟨cn,cm,ct,cz⟩=b at *
  cases h1:rightW ⟨an,am,at',az⟩ with
  | false =>
   rw [prnR_f _ (rightC_a h1)] at hs
   injection hs with hs; subst hs
   simp only [k_cprn_3,r_cprn,go_sem,reduceDiv,reduceMod,↓reduceIte,Int.reduceEq]
  | true =>
   cases h2:rightW ⟨cn,cm,ct,cz⟩ with
   | false =>
    rw [prnR_f _ (rightC_b h2)] at hs
    injection hs with hs; subst hs
    simp only [k_cprn_3,r_cprn,go_sem,reduceDiv,reduceMod,↓reduceIte,Int.reduceEq]
   | true =>
    cases h3:es.any badE with
    | true =>
     rw [prnR_f _ (rightC_e h3)] at hs
     injection hs with hs; subst hs
     simp only [k_cprn_3,r_cprn,phiPrn_2,cfeS,unEx_map,h3,go_sem,reduceDiv,reduceMod,↓reduceIte,reduceSub,reduceAdd,reduceLeDiff,reduceCtorEq]
     exact ⟨q5,z4,hk⟩
    | false =>
     rw [prnR_t _ (rightC_t h1 h2 h3)] at hs
     injection hs with hs; subst hs
     unfold bodyC at z1
     simp only [ha,hb] at z1
     unfold bodyC
     simp only [ha,hb]
     simp only [k_cprn_3,phiPrn_2,cfeS,unEx_map,h3,go_sem,reduceDiv,reduceMod,↓reduceIte,reduceSub,reduceAdd,reduceLeDiff,reduceCtorEq]
     refine ⟨⟨q5,z4,hk⟩,?_⟩
     simp only [k_cprn_4,phiPrn_3,phiPrn_4,hexS,bwsS,selfX,unV_U,go_sem,reduceDiv,reduceMod,↓reduceIte,reduceSub,Nat.reduceLT,reduceAdd,reduceLeDiff,reduceCtorEq]
     have hh:=hexL_length t
     have htot:(printC t ps a b es m).length≤1000000000:=z1
     unfold printC at htot
     simp only [List.length_append] at htot
     have hhc:(headC t).length=6+(hexL t).length:=by simp only [headC,List.length_append,List.length_cons,List.length_nil]; omega
     refine ⟨z2,by (first | omega | (simp only [lenOk]; omega)),by (first | omega | (simp only [lenOk]; omega)),by (first | omega | (simp only [bytesOk,List.length_append,List.length_cons,List.length_nil]; omega)),?_⟩
     refine loop2P [] [1,4,6,8,43,44,45] [0,1,2] (fun q:Nat × List UInt8=>⟨[(1,.ref 0 0 0),(4,.str a),(6,.str b),(8,.ref 1 0 0),(43,.sl kq (ps.map idAV)),(44,.int .i64 (ps.length:Int)),(45,.int .i64 (q.1:Int))],
      [.cells 34 [(20,.blob (t.map U)),(1,.sl kq (ps.map idAV)),(1,.str an),(1,.str am),(1,.int .i64 at'),(1,.str az),(1,.str cn),(1,.str cm),(1,.int .i64 ct),(1,.str cz),(1,.sl ke (es.map exV)),(1,.str m)],.cells 97 [(1,.ref 1 0 0),(1,.own 2 q.1)],.row 5 1 q.1 (Bs q.2)]⟩)
      (fun q=>q.1≤ps.length∧q.2=headC t ++ (ps.take q.1).flatMap parL) (fun q=>ps.length - q.1) (0,headC t) rfl ⟨Nat.zero_le _,by simp⟩ ⟨rfl,by rfl⟩ (fun q hq R hR=>?_)
     obtain ⟨i,acc⟩:=q
     simp only at hq
     obtain ⟨hi,rfl⟩:=hq
     simp only at hi hR ⊢
     have hle:=flatMap_take_le parL ps i
     by_cases hil:i<ps.length
     ·have c1:decide ((i:Int)<(ps.length:Int))=true:=decide_eq_true (by omega)
      have hk:kq=20:=q4.resolve_right (by intro h; have:=congrArg List.length h; simp at this; rw [this] at hil; simp at hil)
      subst hk
      have hget:=getD_map idAV ps [] (.blob (List.replicate 20 (.int .u8 0))) hil
      have hga:ps.getD i []=ps[i]:=by simp [List.getD_eq_getElem?_getD,List.getElem?_eq_getElem hil]
      have hlen:=z3 ps[i] (List.getElem_mem _)
      have hhx:=hexL_length ps[i]
      have hle2:=flatMap_take_le parL ps (i+1)
      rw [← flatMap_take parL ps hil,List.length_append] at hle2
      have hpl:(parL ps[i]).length=8+(hexL ps[i]).length:=by simp only [parL,List.length_append,List.length_cons,List.length_nil]; omega
      simp only [b_cprn_0,phiPrn_3,phiPrn_4,hexS,bwsS,selfX,unV_U,c1,hget,hga,idAV,Int.toNat_natCast,List.length_map,hlen,Bs_app,go_sem,reduceDiv,reduceMod,↓reduceIte,reduceEqDiff,Nat.reduceBEq,reduceSub,Nat.reduceLT,reduceAdd,reduceCtorEq]
      refine ⟨⟨by omega,by omega⟩,by (first | omega | (simp only [lenOk]; omega)),by (first | omega | (simp only [lenOk]; omega)),by (first | omega | (simp only [bytesOk,List.length_append,List.length_cons,List.length_nil]; omega)),by (first | omega | (simp only [inI]; omega)),hR _ (i+1,headC t ++ (ps.take (i+1)).flatMap parL) ⟨by simp only; omega,rfl⟩ (by simp only; omega) ?_⟩
      simp only
      rw [← flatMap_take parL ps hil,← List.append_assoc]
      rfl
     ·have c1:decide ((i:Int)<(ps.length:Int))=false:=decide_eq_false (by omega)
      obtain rfl:i=ps.length:=by omega
      rw [List.take_length]
      simp only [b_cprn_0,t_cprn_1,phiPrn_4,bwsS,selfX,c1,Bs_app,go_sem,reduceDiv,reduceMod,↓reduceIte,reduceEqDiff,Nat.reduceBEq,reduceSub,Nat.reduceLT,reduceAdd,reduceLeDiff,reduceCtorEq]
      have hmc:(midC a b).length=20+a.length+b.length - 1:=by simp only [midC,List.length_append,List.length_cons,List.length_nil]; omega
      have hmt:(midC a b).length≤1000000000:=by omega
      refine ⟨by (first | omega | (simp only [lenOk]; omega)),by (first | omega | (simp only [lenOk]; omega)),by (first | omega | (simp only [lenOk,List.length_append,List.length_cons,List.length_nil]; omega)),by (first | omega | (simp only [lenOk,List.length_append,List.length_cons,List.length_nil]; omega)),by (first | omega | (simp only [bytesOk,List.length_append,List.length_cons,List.length_nil]; omega)),?_⟩
      clear hR R
      refine loop2P [] [1,8,63,64,65] [0,1,2] (fun q:Nat × List UInt8=>⟨[(1,.ref 0 0 0),(8,.ref 1 0 0),(63,.sl ke (es.map exV)),(64,.int .i64 (es.length:Int)),(65,.int .i64 (q.1:Int))],
       [.cells 34 [(20,.blob (t.map U)),(1,.sl kq (ps.map idAV)),(1,.str an),(1,.str am),(1,.int .i64 at'),(1,.str az),(1,.str cn),(1,.str cm),(1,.int .i64 ct),(1,.str cz),(1,.sl ke (es.map exV)),(1,.str m)],.cells 97 [(1,.ref 1 0 0),(1,.own 2 (ps.length+1+q.1))],.row 5 1 (ps.length+1+q.1) (Bs q.2)]⟩)
       (fun q=>q.1≤es.length∧q.2=headC t ++ ps.flatMap parL ++ midC a b ++ (es.take q.1).flatMap exL) (fun q=>es.length - q.1) (0,headC t ++ ps.flatMap parL ++ midC a b) (by rfl) ⟨Nat.zero_le _,by simp⟩ ⟨rfl,by rfl⟩ (fun q hq R hR=>?_)
      obtain ⟨j,acc⟩:=q
      simp only at hq
      obtain ⟨hj,rfl⟩:=hq
      simp only at hj hR ⊢
      have hle:=flatMap_take_le exL es j
      by_cases hjl:j<es.length
      ·have c1:decide ((j:Int)<(es.length:Int))=true:=decide_eq_true (by omega)
       have hk:ke=2:=q5.resolve_right (by intro h; have:=congrArg List.length h; simp at this; rw [this] at hjl; simp at hjl)
       subst hk
       have hget:=getD_map exV es ([],[]) (.agg [(1,(.str [])),(1,(.str []))]) hjl
       have hga:es.getD j ([],[])=es[j]:=by simp [List.getD_eq_getElem?_getD,List.getElem?_eq_getElem hjl]
       obtain ⟨l1,l2⟩:=z5 es[j] (List.getElem_mem _)
       have hle2:=flatMap_take_le exL es (j+1)
       rw [← flatMap_take exL es hjl,List.length_append] at hle2
       have hpl:(exL es[j]).length=es[j].1.length+(subst1 10 [10,32] es[j].2).length+2:=by simp only [exL,List.length_append,List.length_cons,List.length_nil]; omega
       have dn:decide (([10]:List UInt8)=[10,32])=false:=by decide
       simp only [b_cprn_1,phiPrn_4,phiPrn_5,bwsS,replS,selfX,c1,hget,hga,exV,dn,Int.toNat_natCast,Bs_app,go_sem,reduceDiv,reduceMod,↓reduceIte,reduceEqDiff,Nat.reduceBEq,reduceSub,Nat.reduceLT,reduceAdd,reduceLeDiff,reduceCtorEq]
       refine ⟨⟨by omega,by omega⟩,by (first | omega | (simp only [lenOk]; omega)),l2,by (first | omega | (simp only [lenOk,List.length_append,List.length_cons,List.length_nil]; omega)),by (first | omega | (simp only [lenOk,List.length_append,List.length_cons,List.length_nil]; omega)),by (first | omega | (simp only [bytesOk,List.length_append,List.length_cons,List.length_nil]; omega)),by (first | omega | (simp only [inI]; omega)),hR _ (j+1,headC t ++ ps.flatMap parL ++ midC a b ++ (es.take (j+1)).flatMap exL) ⟨by simp only; omega,rfl⟩ (by simp only; omega) ?_⟩
       simp only
       rw [← flatMap_take exL es hjl,show headC t ++ ps.flatMap parL ++ midC a b ++ ((es.take j).flatMap exL ++ exL es[j])=headC t ++ ps.flatMap parL ++ midC a b ++ (es.take j).flatMap exL ++ exL es[j] from (List.append_assoc _ _ _).symm]
       rfl
      ·have c1:decide ((j:Int)<(es.length:Int))=false:=decide_eq_false (by omega)
       obtain rfl:j=es.length:=by omega
       rw [List.take_length]
       simp only [b_cprn_1,t_cprn_0,r_cprn,phiPrn_4,phiPrn_6,bwsS,bstrS,selfX,unB_Bs,c1,Bs_app,go_sem,reduceDiv,reduceMod,↓reduceIte,reduceEqDiff,Nat.reduceBEq,reduceSub,Nat.reduceLT,reduceAdd,reduceLeDiff,reduceCtorEq]
       refine ⟨by (first | omega | (simp only [lenOk]; omega)),by (first | omega | (simp only [bytesOk,List.length_append]; omega)),by (first | omega | (simp only [lenOk,List.length_append,List.length_cons]; omega)),?_⟩
       rfl
 ·cases hs
def headT (u:List UInt8) (t z:Int):List UInt8:=u ++ 10 :: (itoa t ++ 32 :: (itoa z ++ [10]))
theorem words_shape (c:ChgL):wordsT c=headT c.user c.time c.zone ++ c.extras.flatMap exL:=by unfold wordsT headT; simp
def wordsOk (c:ChgL):Prop:=(wordsT c).length≤1000000∧inI c.time∧inI c.zone
def twordsS:Spec:=fun xs hp=>match xs,hp with
 | [.agg [(20,.blob _),(1,.str u),(1,.int .i64 t),(1,.int .i64 z),(1,.sl ke es),(1,.sl _ _),(1,.str _)]],[] =>
  some ⟨.str (wordsT ⟨[],u,t,z,es.map unEx,[],[]⟩),[],es=(es.map unEx).map exV∧(ke=2∨es=[])∧es.length≤1000000∧wordsOk ⟨[],u,t,z,es.map unEx,[],[]⟩⟩
 | _,_=>none
def phiTW:Phi:=phiL [(62,[],itoaS),(50,[],bwsS),(53,[],bstrS),(52,[],replS)]
theorem phiTW_ok:PhiOk Tryz.prog phiTW:=phi_cons ndec_ok (by kernel_rfl) (phi_cons bws_ok (by kernel_rfl) (phi_cons bstr_ok (by kernel_rfl) (phi_cons repl_ok (by kernel_rfl) phi_nil)))
theorem phiTW_1:phiTW 62=some ([],itoaS):=rfl
theorem phiTW_2:phiTW 50=some ([],bwsS):=rfl
theorem phiTW_3:phiTW 53=some ([],bstrS):=rfl
theorem phiTW_4:phiTW 52=some ([],replS):=rfl
set_option maxHeartbeats 4000000 in
theorem twords_ok:FnOk Tryz.prog 67 twordsS:=by
 refine fn_slim2 Tryz.func67 s_twords phiTW_ok ?_
 intro xs hp r hs hp'
 unfold twordsS at hs
 split at hs
 ·injection hs with hs; subst hs
  rename_i m u t z ke es kf fs d
  obtain ⟨q1,q2,q3,q4,q5,q6⟩:=hp'
  generalize es.map unEx=es at *
  subst q1
  rw [List.length_map] at q3
  simp only at q5 q6
  rw [words_shape] at q4 ⊢
  simp only at q4 ⊢
  rw [List.length_append] at q4
  refine ⟨len_le (by kernel_rfl),?_⟩
  have eH:u ++ [10] ++ itoa t ++ [32] ++ itoa z ++ [10]=headT u t z:=by unfold headT; simp
  have hH:(u ++ [10] ++ itoa t ++ [32] ++ itoa z ++ [10]).length=(headT u t z).length:=by rw [eH]
  simp only [List.length_append,List.length_cons,List.length_nil] at hH
  have hX0:selfX (.con (.pointer none))=true:=rfl
  have hX1:selfX (.ref 0 0 0)=true:=rfl
  simp only [c_twords,phiTW_1,phiTW_2,itoaS,bwsS,hX0,List.length_map,go_sem,reduceDiv,reduceMod,↓reduceIte,reduceSub,Nat.reduceLT,reduceAdd,reduceLeDiff,reduceCtorEq]
  (repeat' apply And.intro)
  all_goals first | exact q5.1 | exact q5.2 | exact q6.1 | exact q6.2 | (first | omega | (simp only [lenOk,bytesOk,List.length_append,List.length_cons,List.length_nil]; omega)) | skip
  refine loop2P (m:=0) [] [1,3,21,22,23] [0,1,2] (fun i:Nat=>⟨[(1,.ref 0 0 0),(3,.ref 1 0 0),(21,.sl ke (es.map exV)),(22,.int .i64 (es.length:Int)),(23,.int .i64 (i:Int))],
   [.cells 40 [(20,.blob m),(1,.str u),(1,.int .i64 t),(1,.int .i64 z),(1,.sl ke (es.map exV)),(1,.sl kf fs),(1,.str d)],.cells 97 [(1,.ref 1 0 0),(1,.own 2 i)],.row 5 1 i (Bs (headT u t z ++ (es.take i).flatMap exL))]⟩)
   (fun i=>i≤es.length) (fun i=>es.length - i) 0 ?_ (Nat.zero_le _) ⟨rfl,by rfl⟩ (fun i hi R hR=>?_)
  ·simp only [List.take_zero,List.flatMap_nil,List.append_nil,← eH]
   rfl
  by_cases hil:i<es.length
  ·have c1:decide ((i:Int)<(es.length:Int))=true:=decide_eq_true (by omega)
   have hk:ke=2:=q2.resolve_right (by intro h; have:=congrArg List.length h; simp at this; rw [this] at hil; simp at hil)
   have hget:=getD_map exV es ([],[]) (AV.agg [(1,AV.str []),(1,AV.str [])]) hil
   have hga:es.getD i ([],[])=es[i]:=by simp [List.getD_eq_getElem?_getD,List.getElem?_eq_getElem hil]
   have hle:=flatMap_take_le exL es (i+1)
   have hap:=flatMap_take exL es hil
   have hs2:decide (([10]:List UInt8)=[10,32])=false:=rfl
   rw [← hap,List.length_append] at hle
   subst hk
   generalize es[i]=x at *
   have hxl:(exL x).length=x.1.length+1+(subst1 10 [10,32] x.2).length+1:=by simp only [exL,List.length_append,List.length_cons,List.length_nil]
   have hsl:=sub_len 10 x.2
   have e:headT u t z ++ (es.take i).flatMap exL ++ (x.1 ++ [32] ++ subst1 10 [10,32] x.2 ++ [10])=headT u t z ++ (es.take (i+1)).flatMap exL:=by rw [← hap]; simp [exL]
   simp only [b_twords_0,c1,hget,hga,exV,phiTW_2,phiTW_4,bwsS,replS,hX1,hs2,and_self,Int.toNat_natCast,List.length_map,Bs_len,go_sem,reduceDiv,reduceMod,↓reduceIte,reduceEqDiff,Nat.reduceBEq,reduceSub,Nat.reduceLT,reduceAdd,reduceLeDiff,reduceCtorEq]
   (repeat' apply And.intro)
   all_goals first | omega | rfl | trivial | (first | omega | (simp only [lenOk,bytesOk,List.length_append,List.length_cons,List.length_nil]; omega)) | skip
   rw [Bs_app,e]
   exact hR _ (i+1) hil (by omega) rfl
  ·have c1:decide ((i:Int)<(es.length:Int))=false:=decide_eq_false (by omega)
   rw [List.take_of_length_le (by omega)]
   simp only [b_twords_0,t_twords_0,r_twords,c1,phiTW_3,bstrS,unB_Bs,go_sem,reduceDiv,reduceMod,↓reduceIte,reduceEqDiff,Nat.reduceBEq,Nat.reduceLT,reduceAdd]
   repeat' apply And.intro
   all_goals first | omega | rfl | trivial | skip
 ·cases hs
def chgZ (c:ChgL):AV:=.agg [(20,.blob (c.man.map U)),(1,.str c.user),(1,.int .i64 c.time),(1,.int .i64 c.zone),(1,.sl 2 (c.extras.map exV)),(1,.sl 1 []),(1,.str c.desc)]
def noM (c:ComL):ComL:=⟨zr20,[],c.author,c.committer,c.extras,[]⟩
def szC (c:ComL):Prop:=(bodyC (noM c)).length≤90000∧c.message.length≤90000
def szH (c:ChgL):Prop:=(wordsT c).length≤90000∧c.desc.length≤90000
theorem szC_ok {c:ComL} (hr:rightC c=true) (h:szC c):sizeOkC (noM c):=by
 have hp:=com_body (c:=noM c) hr rfl (fun p hp=>by cases hp)
 have:=par_size hp.1 (by have:=h.1; omega)
 rwa [hp.2] at this
def tplainS0:Spec:=fun xs hp=>match xs,hp with
 | [.agg [(20,.blob _),(1,.sl _ _),(1,.str an),(1,.str am),(1,.int .i64 at'),(1,.str az),(1,.str cn),(1,.str cm),(1,.int .i64 ct),(1,.str cz),(1,.sl ke es),(1,.str m)]],[] =>
  some ⟨.agg [(20,.blob (zr20.map U)),(1,.str (an ++ [32,60] ++ am ++ [62])),(1,.int .i64 at'),(1,.int .i64 0),(1,.own 0 0),(1,.con (.slice none 0 0)),(1,.str m)],
   [.row 78 2 0 [exV (gitW,bodyC ⟨zr20,[],⟨an,am,at',az⟩,⟨cn,cm,ct,cz⟩,es.map unEx,[]⟩)]],
   es=(es.map unEx).map exV∧(ke=2∨es=[])∧rightC ⟨zr20,[],⟨an,am,at',az⟩,⟨cn,cm,ct,cz⟩,es.map unEx,m⟩=true∧szC ⟨zr20,[],⟨an,am,at',az⟩,⟨cn,cm,ct,cz⟩,es.map unEx,m⟩⟩
 | _,_=>none
set_option maxHeartbeats 2000000 in
theorem tplain0_ok:FnOk Tryz.prog 56 tplainS0:=by
 refine fn_slim2 Tryz.func56 s_tplain (Φ:=phiL [(31,[],taloneS),(29,[],prnS)]) (phi_cons talone_ok (by kernel_rfl) (phi_cons prn_ok (by kernel_rfl) phi_nil)) ?_
 intro xs hp r hs hp'
 unfold tplainS0 at hs
 split at hs
 ·injection hs with hs; subst hs
  rename_i t kq ps an am at' az cn cm ct cz ke es m
  obtain ⟨q1,q2,q3,q4⟩:=hp'
  generalize es.map unEx=es at *
  subst q1
  have hz:=szC_ok q3 q4
  have hb:=q4.1
  unfold noM at hz hb
  simp only at hz hb
  have hr:rightC ⟨zr20,[],⟨an,am,at',az⟩,⟨cn,cm,ct,cz⟩,es,[]⟩=true:=q3
  have e:∀ pr,prnR ⟨zr20,[],⟨an,am,at',az⟩,⟨cn,cm,ct,cz⟩,es,[]⟩ pr=_:=fun pr=>prnR_t pr hr
  have hg:=textW_ge ⟨an,am,at',az⟩
  obtain ⟨-,-,-,-,-,-,z6,z7⟩:=id hz
  have hzT:=eq_true hz
  generalize hbd:bodyC ⟨zr20,[],⟨an,am,at',az⟩,⟨cn,cm,ct,cz⟩,es,[]⟩=bd at *
  refine ⟨len_le (by kernel_rfl),?_⟩
  simp only at z6 z7
  simp only [c_tplain,r_tplain,taloneS,prnS,unV_U,unEx_map,List.map_nil,e,hzT,unB_Bs,exV,gitW,go_sem,reduceDiv,reduceMod,↓reduceIte,reduceEqDiff,reduceSub,Nat.reduceLT,reduceAdd,reduceLeDiff,reduceCtorEq]
  (repeat' apply And.intro)
  all_goals first | omega | rfl | trivial | exact .inl trivial | exact .inr trivial | exact .inr rfl | exact q2 | exact hz.1 | (first | omega | (simp only [lenOk,List.length_append,List.length_cons,List.length_nil]; omega)) | skip
 ·cases hs
def rlinesS:Spec:=fun xs hp=>match xs,hp with
 | [.str s],[]=>some ⟨.own 0 (linesA [] s).length,[.row 9 1 (linesA [] s).length ((linesA [] s).map AV.str)],s.length≤1000000000⟩
 | _,_=>none
theorem take_drop1 {α:Type} (l:List α) {i:Nat} (h:i<l.length):(l.take (i+1)).drop i=[l[i]]:=by
 rw [List.take_add_one,List.getElem?_eq_getElem h,Option.toList_some,List.drop_append,List.length_take,List.drop_of_length_le (by rw [List.length_take]; omega)]
 rw [show i - min i l.length=0 by omega]; rfl
theorem rlines_ok:FnOk Tryz.prog 69 rlinesS:=by
 refine fn_slim2 Tryz.func69 s_rlines (Φ:=phiL []) phi_nil ?_
 intro xs hp r hs hp'
 unfold rlinesS at hs
 split at hs
 ·injection hs with hs; subst hs
  rename_i s
  have p1:s.length≤1000000000:=hp'
  refine ⟨len_le (by kernel_rfl),?_⟩
  generalize hL:linesA [] s=L at *
  simp only [c_rlines,go_sem,reduceDiv,reduceMod]
  refine loop2P [(3,9,1)] [0,3,4,5] [0] (fun q:Nat × List (List UInt8) × List UInt8=>⟨[(0,.str s),(3,.own 0 q.2.1.length),(4,.str q.2.2),(5,.int .i64 (q.1:Int))],[.row 9 1 q.2.1.length (q.2.1.map AV.str)]⟩)
   (fun q=>q.1≤s.length∧q.2.1 ++ linesA q.2.2 (s.drop q.1)=L∧q.2.1.length≤q.1∧q.2.2.length≤q.1) (fun q=>s.length - q.1) (0,[],[]) rfl ⟨Nat.zero_le _,by simpa using hL,Nat.le_refl _,Nat.zero_le _⟩ ⟨rfl,by rfl⟩ (fun q hq R hR=>?_)
  obtain ⟨i,l,one⟩:=q
  simp only at hq hR ⊢
  obtain ⟨h1,h2,h3,h4⟩:=hq
  have hlen:∀ o,(l.map AV.str ++ [AV.str o]).length=l.length+1:=by intro o; simp
  by_cases hil:i<s.length
  ·have c1:decide ((i:Int)<(s.length:Int))=true:=decide_eq_true (by omega)
   have hl:=at8_lit hil
   have hd:s.drop i=s[i] :: s.drop (i+1):=List.drop_eq_getElem_cons hil
   have e1:((i:Int)+1).toNat=i+1:=by omega
   rw [hd,linesA] at h2
   by_cases he:s[i]=10
   ·have c2:decide (at8 s i=10)=true:=decide_eq_true (by rw [hl,he]; rfl)
    rw [if_pos he] at h2
    simp only [b_rlines_0,c1,c2,Int.toNat_natCast,go_sem,reduceDiv,reduceMod,↓reduceIte,reduceAdd]
    refine ⟨⟨by omega,by omega⟩,⟨by rw [hlen]; (first | omega | (simp only [lenOk]; omega)),by rw [hlen]; (first | omega | (simp only [bytesOk]; omega))⟩,⟨by omega,by omega⟩,hR _ (i+1,l ++ [one],[]) ⟨by simp only; omega,by simpa using h2,by simp only [List.length_append,List.length_cons,List.length_nil]; omega,Nat.zero_le _⟩ (by simp only; omega) ?_⟩
    simp only [List.length_append,List.length_cons,List.length_nil,List.map_append,List.map_cons,List.map_nil]
    rfl
   ·have c2:decide (at8 s i=10)=false:=decide_eq_false (by
     rw [hl]; intro h; apply he; exact UInt8.toNat_inj.1 (by rw [show ((10:UInt8).toNat)=10 from rfl]; omega))
    rw [if_neg he] at h2
    have ht:=take_drop1 s hil
    simp only [b_rlines_0,c1,c2,e1,ht,Int.toNat_natCast,go_sem,reduceDiv,reduceMod,↓reduceIte,reduceAdd]
    refine ⟨⟨by omega,by omega⟩,⟨by omega,by omega⟩,⟨by omega,by omega⟩,by (first | omega | (simp only [lenOk]; omega)),⟨by omega,by omega⟩,hR _ (i+1,l,one ++ [s[i]]) ⟨by simp only; omega,h2,by simp only; omega,by simp only [List.length_append,List.length_cons,List.length_nil]; omega⟩ (by simp only; omega) rfl⟩
  ·have c1:decide ((i:Int)<(s.length:Int))=false:=decide_eq_false (by omega)
   rw [List.drop_of_length_le (by omega),linesA] at h2
   subst h2
   simp only [b_rlines_0,t_rlines_0,r_rlines,c1,go_sem,reduceDiv,reduceMod,↓reduceIte,reduceAdd]
   refine ⟨⟨by rw [hlen]; (first | omega | (simp only [lenOk]; omega)),by rw [hlen]; (first | omega | (simp only [bytesOk]; omega))⟩,?_⟩
   simp
 ·cases hs
def b_glto_0:ACode:=(.seq (.seq (.reg none [oS 28 (.mv (.t 4)),oS 29 (.fa 23 (.t 1)),oS 30 (.ld (.one (.con (.slice none 0 0))) (.t 29)),oS 31 (.len none false (.t 30)),oS 32 (.bin .lss (.t 28) (.t 31)),oS 33 (.mv (.t 32)),oG 34 (.mv (.t 4)) 33,oG 35 (.bin .lss (.t 34) (.c (.int .i64 20))) 33,oS 36 (.pick (.t 33) (.t 35) (.c (.bool false)))]) (.cond (.t 36) .skip (.exit 0))) (.seq (.block 1 (.seq (.reg none [oS 39 (.fa 23 (.t 1)),oS 40 (.ld (.one (.con (.slice none 0 0))) (.t 39)),oS 41 (.mv (.t 4)),oS 42 (.ia 2 (.agg [(1,(.str [])),(1,(.str []))]) (.t 40) (.t 41)),oS 43 (.ld (.st 2) (.t 42)),oS 5 (.new 63 [(1,(.str [])),(1,(.str []))]),oN (.st (.st 2) (.t 5) (.t 43))]) (.reg (some [(0,false),(1,false),(2,false),(3,false),(4,false),(5,false),(6,false),(7,false),(8,false),(9,false),(10,false),(11,false),(12,false),(13,false),(14,false),(15,false),(16,false),(17,false),(18,true),(19,true),(20,true)]) [oS 44 (.fa 23 (.t 3)),oS 45 (.ld (.one (.con (.slice none 0 0))) (.t 44)),oS 46 (.fa 0 (.t 5)),oS 47 (.ld (.one (.str [])) (.t 46)),oS 48 (.fa 0 (.t 5)),oS 49 (.ld (.one (.str [])) (.t 48)),oS 50 (.len none true (.t 49)),oS 51 (.mm false (.t 50) (.c (.int .i64 150))),oS 52 (.slS (.t 47) none (some (.t 51))),oS 53 (.fa 1 (.t 5)),oS 54 (.ld (.one (.str [])) (.t 53)),oS 55 (.fa 1 (.t 5)),oS 56 (.ld (.one (.str [])) (.t 55)),oS 57 (.len none true (.t 56)),oS 58 (.mm false (.t 57) (.c (.int .i64 200))),oS 59 (.slS (.t 54) none (some (.t 58))),oS 60 (.build [(1,(.str [])),(1,(.str []))] [(0,(1,(.t 52))),(1,(1,(.t 59)))]),oS 61 (.buildSl 78 2 [(.t 60)]),oS 62 (.app 78 2 32 (.t 45) (.t 61)),oS 63 (.fa 23 (.t 3)),oN (.st (.one (.con (.slice none 0 0))) (.t 63) (.t 62))]))) (.reg none [oS 37 (.mv (.t 4)),oS 38 (.bin .add (.t 37) (.c (.int .i64 1))),oS 4 (.mv (.t 38))])))
def b_glto_1:ACode:=(.seq (.seq (.reg none [oS 64 (.mv (.t 6)),oS 65 (.fa 24 (.t 1)),oS 66 (.ld (.one (.con (.slice none 0 0))) (.t 65)),oS 67 (.len none false (.t 66)),oS 68 (.bin .lss (.t 64) (.t 67)),oS 69 (.mv (.t 68)),oG 70 (.mv (.t 6)) 69,oG 71 (.bin .lss (.t 70) (.c (.int .i64 20))) 69,oS 72 (.pick (.t 69) (.t 71) (.c (.bool false)))]) (.cond (.t 72) .skip (.exit 2))) (.seq (.block 3 (.reg (some [(0,false),(1,false),(2,false),(3,false),(4,false),(5,false),(6,false),(7,false),(8,false),(9,false),(10,false),(11,false),(12,false),(13,false),(14,false),(15,false),(16,true),(17,true),(18,true)]) [oS 75 (.fa 24 (.t 3)),oS 76 (.ld (.one (.con (.slice none 0 0))) (.t 75)),oS 77 (.fa 24 (.t 1)),oS 78 (.ld (.one (.con (.slice none 0 0))) (.t 77)),oS 79 (.mv (.t 6)),oS 80 (.ia 1 (.str []) (.t 78) (.t 79)),oS 81 (.ld (.one (.str [])) (.t 80)),oS 82 (.fa 24 (.t 1)),oS 83 (.ld (.one (.con (.slice none 0 0))) (.t 82)),oS 84 (.mv (.t 6)),oS 85 (.ia 1 (.str []) (.t 83) (.t 84)),oS 86 (.ld (.one (.str [])) (.t 85)),oS 87 (.len none true (.t 86)),oS 88 (.mm false (.t 87) (.c (.int .i64 300))),oS 89 (.slS (.t 81) none (some (.t 88))),oS 90 (.buildSl 9 1 [(.t 89)]),oS 91 (.app 9 1 16 (.t 76) (.t 90)),oS 92 (.fa 24 (.t 3)),oN (.st (.one (.con (.slice none 0 0))) (.t 92) (.t 91))])) (.reg none [oS 73 (.mv (.t 6)),oS 74 (.bin .add (.t 73) (.c (.int .i64 1))),oS 6 (.mv (.t 74))])))
def t_glto_0:ACode:=(.seq (.reg none [oS 93 (.ld (.st 26) (.t 3)),oN (.st (.st 26) (.t 2) (.t 93))]) .ret)
def t_glto_1:ACode:=(.seq (.seq (.reg none [oS 6 (.mv (.c (.int .i64 0)))]) (.block 2 (.loop b_glto_1))) t_glto_0)
def c_glto:ACode:=(.seq (.reg none [oS 1 (.box 49 26 (.t 0)),oS 2 (.new 40 [(20,(.blob (List.replicate 20 (.int .u8 0)))),(1,(.str [])),(1,(.int .i64 0)),(1,(.int .i64 0)),(1,(.con (.slice none 0 0))),(1,(.con (.slice none 0 0))),(1,(.str []))])]) (.seq (.reg (some [(0,false),(1,false),(2,false),(3,false),(4,false),(5,false),(6,false),(7,false),(8,false),(9,false),(10,false),(11,false),(12,false),(13,false),(14,false),(15,false),(16,false),(17,false),(18,false),(19,false),(20,false),(21,false),(22,true)]) [oS 7 (.fa 0 (.t 1)),oS 8 (.ld (.arr 20) (.t 7)),oS 9 (.fa 20 (.t 1)),oS 10 (.ld (.one (.str [])) (.t 9)),oS 11 (.fa 20 (.t 1)),oS 12 (.ld (.one (.str [])) (.t 11)),oS 13 (.len none true (.t 12)),oS 14 (.mm false (.t 13) (.c (.int .i64 200))),oS 15 (.slS (.t 10) none (some (.t 14))),oS 16 (.fa 21 (.t 1)),oS 17 (.ld (.one (.int .i64 0)) (.t 16)),oS 18 (.fa 22 (.t 1)),oS 19 (.ld (.one (.int .i64 0)) (.t 18)),oS 20 (.fa 25 (.t 1)),oS 21 (.ld (.one (.str [])) (.t 20)),oS 22 (.fa 25 (.t 1)),oS 23 (.ld (.one (.str [])) (.t 22)),oS 24 (.len none true (.t 23)),oS 25 (.mm false (.t 24) (.c (.int .i64 500))),oS 26 (.slS (.t 21) none (some (.t 25))),oS 27 (.build [(20,(.blob (List.replicate 20 (.int .u8 0)))),(1,(.str [])),(1,(.int .i64 0)),(1,(.int .i64 0)),(1,(.con (.slice none 0 0))),(1,(.con (.slice none 0 0))),(1,(.str []))] [(0,(20,(.t 8))),(20,(1,(.t 15))),(21,(1,(.t 17))),(22,(1,(.t 19))),(25,(1,(.t 26)))]),oS 3 (.new 40 [(20,(.blob (List.replicate 20 (.int .u8 0)))),(1,(.str [])),(1,(.int .i64 0)),(1,(.int .i64 0)),(1,(.con (.slice none 0 0))),(1,(.con (.slice none 0 0))),(1,(.str []))]),oN (.st (.st 26) (.t 3) (.t 27))]) (.seq (.seq (.reg none [oS 4 (.mv (.c (.int .i64 0)))]) (.block 0 (.loop b_glto_0))) t_glto_1)))
def r_glto:List ARes:=[(.c 2 (.st 26))]
theorem s_glto:slimF Tryz.prog Tryz.f18=some (c_glto,r_glto):=by kernel_rfl
def b_glof_0:ACode:=(.seq (.seq (.reg none [oS 16 (.mv (.t 4)),oS 17 (.fa 23 (.t 1)),oS 18 (.ld (.one (.con (.slice none 0 0))) (.t 17)),oS 19 (.len none false (.t 18)),oS 20 (.bin .lss (.t 16) (.t 19))]) (.cond (.t 20) .skip (.exit 0))) (.seq (.block 1 (.reg (some [(0,false),(1,false),(2,false),(3,false),(4,false),(5,false),(6,false),(7,false),(8,false),(9,false),(10,false),(11,false),(12,false),(13,false),(14,false),(15,false),(16,true),(17,true),(18,true)]) [oS 23 (.fa 23 (.t 3)),oS 24 (.ld (.one (.con (.slice none 0 0))) (.t 23)),oS 25 (.fa 23 (.t 1)),oS 26 (.ld (.one (.con (.slice none 0 0))) (.t 25)),oS 27 (.mv (.t 4)),oS 28 (.ia 2 (.agg [(1,(.str [])),(1,(.str []))]) (.t 26) (.t 27)),oS 29 (.fa 0 (.t 28)),oS 30 (.ld (.one (.str [])) (.t 29)),oS 31 (.fa 23 (.t 1)),oS 32 (.ld (.one (.con (.slice none 0 0))) (.t 31)),oS 33 (.mv (.t 4)),oS 34 (.ia 2 (.agg [(1,(.str [])),(1,(.str []))]) (.t 32) (.t 33)),oS 35 (.fa 1 (.t 34)),oS 36 (.ld (.one (.str [])) (.t 35)),oS 37 (.build [(1,(.str [])),(1,(.str []))] [(0,(1,(.t 30))),(1,(1,(.t 36)))]),oS 38 (.buildSl 63 2 [(.t 37)]),oS 39 (.app 63 2 32 (.t 24) (.t 38)),oS 40 (.fa 23 (.t 3)),oN (.st (.one (.con (.slice none 0 0))) (.t 40) (.t 39))])) (.reg none [oS 21 (.mv (.t 4)),oS 22 (.bin .add (.t 21) (.c (.int .i64 1))),oS 4 (.mv (.t 22))])))
def t_glof_0:ACode:=(.seq (.reg none [oS 41 (.fa 24 (.t 3)),oS 42 (.ld (.one (.con (.slice none 0 0))) (.t 41)),oS 43 (.fa 24 (.t 1)),oS 44 (.ld (.one (.con (.slice none 0 0))) (.t 43)),oS 45 (.app 9 1 16 (.t 42) (.t 44)),oS 46 (.fa 24 (.t 3)),oN (.st (.one (.con (.slice none 0 0))) (.t 46) (.t 45))]) (.seq (.reg none [oS 47 (.ld (.st 26) (.t 3)),oN (.st (.st 26) (.t 2) (.t 47))]) .ret))
def c_glof:ACode:=(.seq (.reg none [oS 1 (.box 40 26 (.t 0)),oS 2 (.new 49 [(20,(.blob (List.replicate 20 (.int .u8 0)))),(1,(.str [])),(1,(.int .i64 0)),(1,(.int .i64 0)),(1,(.con (.slice none 0 0))),(1,(.con (.slice none 0 0))),(1,(.str []))])]) (.seq (.reg none [oS 5 (.fa 0 (.t 1)),oS 6 (.ld (.arr 20) (.t 5)),oS 7 (.fa 20 (.t 1)),oS 8 (.ld (.one (.str [])) (.t 7)),oS 9 (.fa 21 (.t 1)),oS 10 (.ld (.one (.int .i64 0)) (.t 9)),oS 11 (.fa 22 (.t 1)),oS 12 (.ld (.one (.int .i64 0)) (.t 11)),oS 13 (.fa 25 (.t 1)),oS 14 (.ld (.one (.str [])) (.t 13)),oS 15 (.build [(20,(.blob (List.replicate 20 (.int .u8 0)))),(1,(.str [])),(1,(.int .i64 0)),(1,(.int .i64 0)),(1,(.con (.slice none 0 0))),(1,(.con (.slice none 0 0))),(1,(.str []))] [(0,(20,(.t 6))),(20,(1,(.t 8))),(21,(1,(.t 10))),(22,(1,(.t 12))),(25,(1,(.t 14)))]),oS 3 (.new 49 [(20,(.blob (List.replicate 20 (.int .u8 0)))),(1,(.str [])),(1,(.int .i64 0)),(1,(.int .i64 0)),(1,(.con (.slice none 0 0))),(1,(.con (.slice none 0 0))),(1,(.str []))]),oN (.st (.st 26) (.t 3) (.t 15))]) (.seq (.seq (.reg none [oS 4 (.mv (.c (.int .i64 0)))]) (.block 0 (.loop b_glof_0))) t_glof_0)))
def r_glof:List ARes:=[(.c 2 (.st 26))]
theorem s_glof:slimF Tryz.prog Tryz.f15=some (c_glof,r_glof):=by kernel_rfl
end Go.Proofs.YtgaehhechonegaaGreatDoor
