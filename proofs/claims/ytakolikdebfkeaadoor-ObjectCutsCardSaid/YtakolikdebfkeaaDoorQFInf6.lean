import Derived.Test.YtakolikdebfkeaaDoorQFInf4
import Derived.Test.YtakolikdebfkeaaDoorQObjCode
import Derived.Test.YtakolikdebfkeaaDoorQAM9
import Derived.Recover
open Nat (reduceDiv reduceMod reduceSub reduceAdd reduceLeDiff reduceEqDiff)
set_option linter.all false
namespace Go.Proofs.YtakolikdebfkeaaDoor
open Go.RowKit
theorem tot_le (ls:List Nat) (k:Nat):totL ls k≤ls.length:=by
 induction ls with
 | nil =>
  have:∀ k,totL [] k=0:=fun k=>by
   induction k with
   | zero=>rfl
   | succ k ih=>show totL [] k+cntL [] (k+1)=0; rw [ih]; rfl
  rw [this]; exact Nat.zero_le _
 | cons a ls ih =>
  have:∀ k,totL (a :: ls) k=totL ls k+if 0<a∧a≤k then 1 else 0:=fun k=>by
   induction k with
   | zero=>rw [if_neg (by omega)]; rfl
   | succ k ih =>
    show totL (a :: ls) k+cntL (a :: ls) (k+1)=totL ls k+cntL ls (k+1)+_
    unfold cntL
    rw [ih,List.count_cons]
    by_cases h:a=k+1
    ·subst h; rw [if_neg (show ¬(0<k+1∧k+1≤k) by omega),if_pos (show 0<k+1∧k+1≤k+1 by omega)]; simp; omega
    ·have:(a == k+1)=false:=by simpa using h
     rw [this]
     by_cases h1:0<a∧a≤k
     ·rw [if_pos h1,if_pos (show 0<a∧a≤k+1 by omega)]; simp; omega
     ·rw [if_neg h1,if_neg (show ¬(0<a∧a≤k+1) by omega)]; simp
  rw [this,List.length_cons]
  split <;> omega
theorem kr_leT (ls:List Nat):∀ j,j≤15→krL ls j * 2 ^ (15 - j)≤totL ls j * 2 ^ 15
 | 0,_=>by simp [krL,fstL]
 | j+1,h=>by
  have ih:=kr_leT ls j (by omega)
  have e1:krL ls (j+1)=2 * krL ls j+cntL ls (j+1):=by rw [← fstL_succ]; unfold krL; rw [if_neg (by omega)]
  have e2:totL ls (j+1)=totL ls j+cntL ls (j+1):=rfl
  have e3:2 ^ (15 - j)=2 * 2 ^ (15 - (j+1)):=by rw [show 15 - j=15 - (j+1)+1 by omega,Nat.pow_succ]; omega
  have e4:(2:Nat) ^ (15 - (j+1))≤2 ^ 15:=Nat.pow_le_pow_right (by omega) (by omega)
  have e5:=Nat.mul_le_mul_left (cntL ls (j+1)) e4
  rw [e1,e2,Nat.add_mul,Nat.add_mul]
  rw [e3] at ih
  have e6:2 * krL ls j * 2 ^ (15 - (j+1))=krL ls j * (2 * 2 ^ (15 - (j+1))):=by rw [Nat.mul_comm 2,Nat.mul_assoc]
  omega
theorem kr_step (ls:List Nat) {j:Nat} (h:j<15):krL ls j * 2 ^ (15 - j)+cntL ls (j+1) * 2 ^ (15 - (j+1))=krL ls (j+1) * 2 ^ (15 - (j+1)):=by
 have e1:krL ls (j+1)=2 * krL ls j+cntL ls (j+1):=by rw [← fstL_succ]; unfold krL; rw [if_neg (by omega)]
 have e3:2 ^ (15 - j)=2 * 2 ^ (15 - (j+1)):=by rw [show 15 - j=15 - (j+1)+1 by omega,Nat.pow_succ]; omega
 rw [e1,Nat.add_mul,e3,Nat.mul_comm 2 (krL ls j),Nat.mul_assoc]
theorem sgs_lt (ls:List Nat):∀ i∈sgs ls,i<ls.length:=by
 intro i hi
 unfold sgs sgK at hi
 rw [List.mem_flatMap] at hi
 obtain ⟨l,_,h⟩:=hi
 unfold idxs idxU at h
 rw [List.mem_filter,List.mem_range] at h
 exact h.1
def cntP (ls:List Nat) (l c:Nat):List Value:=(List.range 16).map fun j=>Value.int .i64 ((if j=0 then 0 else if j<l then cntL ls j else if j=l then c else 0:Nat):Int)
theorem cntP_len (ls:List Nat) (l c:Nat):(cntP ls l c).length=16:=by simp [cntP]
theorem cntP_at (ls:List Nat) (l c:Nat) {j:Nat} (h:j<16):(cntP ls l c)[j]?=some (Value.int .i64 ((if j=0 then 0 else if j<l then cntL ls j else if j=l then c else 0:Nat):Int)):=by
 unfold cntP
 rw [List.getElem?_map,List.getElem?_range h]; rfl
theorem cntP_get (ls:List Nat) (l c:Nat) {j:Nat} (h:j<16) (d:Value):ofC ((cntP ls l c).getD j d)=.int .i64 ((if j=0 then 0 else if j<l then cntL ls j else if j=l then c else 0:Nat):Int):=by
 rw [List.getD_eq_getElem?_getD,cntP_at ls l c h]; rfl
theorem cntP_get1 (ls:List Nat) {l:Nat} (c:Nat) (h0:0<l) (h:l<16) (d:Value):ofC ((cntP ls l c).getD l d)=.int .i64 (c:Int):=by
 rw [cntP_get ls l c h,if_neg (by omega),if_neg (by omega),if_pos rfl]
theorem cntP_set (ls:List Nat) {l:Nat} (c:Nat) (h0:0<l) (h:l<16):(cntP ls l c).set l (.int .i64 ((c+1:Nat):Int))=cntP ls l (c+1):=by
 refine List.ext_getElem? fun j=>?_
 rw [List.getElem?_set]
 by_cases hj:j<16
 ·rw [cntP_at ls l (c+1) hj]
  by_cases e:l=j
  ·subst e
   rw [if_pos rfl,cntP_len,if_pos h,if_neg (by omega),if_neg (by omega),if_pos rfl]
  ·rw [if_neg e,cntP_at ls l c hj,if_neg (Ne.symm e),if_neg (Ne.symm e)]
 ·rw [if_neg (by omega),List.getElem?_eq_none (by rw [cntP_len]; omega),List.getElem?_eq_none (by rw [cntP_len]; omega)]
theorem cntP_set2 (ls:List Nat) {l:Nat} (c:Nat) (h0:0<l) (h:l<16):(cntP ls l c).set l (.int .i64 ((c:Int)+1))=cntP ls l (c+1):=by
 rw [← cntP_set ls c h0 h]; rfl
theorem sg_more (A:List Nat) (B:List Nat) (i:Nat):(A ++ (B ++ [i])).length=(A ++ B).length+1∧(A ++ (B ++ [i])).map iV=(A ++ B).map iV ++ [.int .i64 (i:Int)]:=by
 rw [← List.append_assoc,List.length_append,List.map_append]
 exact ⟨rfl,rfl⟩
theorem cntP_next (ls:List Nat) (l:Nat):cntP ls l (cntL ls l)=cntP ls (l+1) 0:=by
 unfold cntP
 refine List.map_congr_left fun j _=>?_
 by_cases h0:j=0
 ·rw [if_pos h0,if_pos h0]
 ·rw [if_neg h0,if_neg h0]
  by_cases h1:j<l
  ·rw [if_pos h1,if_pos (by omega)]
  ·rw [if_neg h1]
   by_cases h2:j=l
   ·rw [if_pos h2,if_pos (by omega),h2]
   ·rw [if_neg h2,if_neg (by omega)]; simp
theorem cntP_first (ls:List Nat):List.replicate 16 (Value.int .i64 0)=cntP ls 1 0:=by
 refine List.ext_getElem? fun j=>?_
 by_cases hj:j<16
 ·rw [cntP_at ls 1 0 hj,List.getElem?_replicate,if_pos hj]
  by_cases h0:j=0
  ·rw [if_pos h0]; rfl
  ·rw [if_neg h0,if_neg (by omega)]; simp
 ·rw [List.getElem?_eq_none (by rw [List.length_replicate]; omega),List.getElem?_eq_none (by rw [cntP_len]; omega)]
theorem cntP_last (ls:List Nat):cntP ls 16 0=cntV ls:=by
 unfold cntP cntV
 refine List.map_congr_left fun j hj=>?_
 rw [List.mem_range] at hj
 unfold cnt0
 by_cases h0:j=0
 ·rw [if_pos h0,if_pos h0]
 ·rw [if_neg h0,if_neg h0,if_pos hj]
theorem iV_getD (ls:List Nat) {i:Nat} (h:i<ls.length) (d:AV):(ls.map iV).getD i d=.int .i64 ((ls.getD i 0:Nat):Int):=by
 rw [List.getD_eq_getElem?_getD,List.getD_eq_getElem?_getD,List.getElem?_map,List.getElem?_eq_getElem h]; rfl
def unN (xs:List AV):List Nat:=xs.map fun x=>match x with | .int _ z=>z.toNat | _=>0
theorem unN_iV (ls:List Nat):unN (ls.map iV)=ls:=by
 unfold unN
 rw [List.map_map]
 exact (List.map_congr_left fun i _=>by simp [iV]).trans (List.map_id _)
def lensOk (k:Nat) (xs:List AV):Prop:=xs=(unN xs).map iV∧(k=1∨xs=[])∧(unN xs).length≤320
def imade0S:Spec:=fun xs hp=>match xs,hp with
 | [.sl k ys,.bool lo],[]=>if goodL (unN ys) lo=true then some ⟨.agg [(16,.blob (cntV (unN ys))),(1,.own 0 (sgs (unN ys)).length)],[.row 3 1 (sgs (unN ys)).length ((sgs (unN ys)).map iV)],lensOk k ys⟩ else none
 | _,_=>none
set_option maxHeartbeats 1000000 in
theorem imade0_ok:FnOk Tryd.prog 100 imade0S:=by
 refine fn_slim2 Tryd.func100 s_imade (Φ:=phiL []) phi_nil ?_
 intro xs hp r hs hp'
 unfold imade0S at hs
 split at hs
 ·rename_i k ys lo
  split at hs
  ·rename_i hg
   injection hs with hs; subst hs
   obtain ⟨h1,h2,h3⟩:=hp'
   generalize unN ys=ls at *
   subst h1
   refine ⟨len_le (by kernel_rfl),?_⟩
   simp only [c_imade,go_sem,reduceDiv,reduceMod,↓reduceIte,reduceEqDiff,Nat.reduceBEq,reduceSub,Nat.reduceLT,reduceAdd,reduceLeDiff,reduceCtorEq,Int.reduceEq,Int.reduceNe,Int.reduceLT,Int.reduceLE,Int.reduceToNat]
   refine loop2P [(4161,3,1)] [0,1,4,5,6] [0,1,2] (fun j:Nat=>⟨[(0,.sl k (ls.map iV)),(1,.bool lo),(4,.ref 0 0 0),(5,.ref 1 0 0),(6,.int .i64 ((j+1:Nat):Int))],[.cells 128 [(16,.blob (List.replicate 16 (.int .i64 0))),(1,.con (.slice none 0 0))],.cells 128 [(16,.blob (cntP ls (j+1) 0)),(1,.own 2 (sgK ls j).length)],.row 3 1 (sgK ls j).length ((sgK ls j).map iV)]⟩) (fun j=>j≤15) (fun j=>15 - j) 0 (by rw [← cntP_first]; rfl) (Nat.zero_le _) ⟨rfl,by rfl⟩ (fun j hj R hR=>?_)
   by_cases hj15:j<15
   ·have c1:decide (((j+1:Nat):Int)<16)=true:=decide_eq_true (by omega)
    simp only [b_imade_1,c1,go_sem,reduceDiv,reduceMod,↓reduceIte,reduceEqDiff,Nat.reduceBEq,reduceSub,Nat.reduceLT,reduceAdd,reduceLeDiff,reduceCtorEq,Int.reduceEq,Int.reduceNe,Int.reduceLT,Int.reduceLE,Int.reduceToNat]
    refine loop2P [] [0,1,4,5,6,16,17,18] [0,1,2] (fun i:Nat=>⟨[(0,.sl k (ls.map iV)),(1,.bool lo),(4,.ref 0 0 0),(5,.ref 1 0 0),(6,.int .i64 ((j+1:Nat):Int)),(16,.sl k (ls.map iV)),(17,.int .i64 (ls.length:Int)),(18,.int .i64 (i:Int))],[.cells 128 [(16,.blob (List.replicate 16 (.int .i64 0))),(1,.con (.slice none 0 0))],.cells 128 [(16,.blob (cntP ls (j+1) ((ls.take i).count (j+1)))),(1,.own 2 (sgK ls j ++ idxU ls (j+1) i).length)],.row 3 1 (sgK ls j ++ idxU ls (j+1) i).length ((sgK ls j ++ idxU ls (j+1) i).map iV)]⟩) (fun i=>i≤ls.length) (fun i=>ls.length - i) 0 (by simp only [List.take_zero,List.count_nil,idxU,List.range_zero,List.filter_nil,List.append_nil]; rfl) (Nat.zero_le _) ⟨rfl,by rfl⟩ (fun i hi R2 hR2=>?_)
    by_cases hil:i<ls.length
    ·have c2:decide ((i:Int)<(ls.length:Int))=true:=decide_eq_true (by omega)
     have hk:k=1:=by
      rcases h2 with h | h
      ·exact h
      ·have:=congrArg List.length h; rw [List.length_map,List.length_nil] at this; omega
     subst hk
     have hge:=iV_getD ls hil
     have hcn:=fun d=>cntP_get1 ls ((ls.take i).count (j+1)) (l:=j+1) (by omega) (by omega) d
     have htc:=take_count ls (j+1) hil
     have hix:=idxU_succ ls (j+1) i
     have hcl:=cntP_len ls (j+1) ((ls.take i).count (j+1))
     have hsl:(sgK ls j ++ idxU ls (j+1) i).length≤1000:=by
      have e1:=sgK_len ls j
      have e2:=tot_le ls j
      have e3:=idxU_length ls (j+1) i (by omega)
      have e4:(ls.take i).count (j+1)≤(ls.take i).length:=List.count_le_length
      rw [List.length_take] at e4
      rw [List.length_append]; omega
     by_cases he:ls.getD i 0=j+1
     ·have c3:decide (((ls.getD i 0:Nat):Int)=((j+1:Nat):Int))=true:=by rw [he]; exact decide_eq_true rfl
      rw [if_pos he] at htc hix
      have hcc:(ls.take i).count (j+1)≤(ls.take i).length:=List.count_le_length
      rw [List.length_take] at hcc
      simp only [b_imade_0,c2,c3,hge,hcn,Int.toNat_natCast,go_sem,reduceDiv,reduceMod,↓reduceIte,reduceEqDiff,Nat.reduceBEq,reduceSub,Nat.reduceLT,reduceAdd,reduceLeDiff,reduceCtorEq,Int.reduceEq,Int.reduceNe,Int.reduceLT,Int.reduceLE,Int.reduceToNat]
      refine ⟨by omega,by omega,by omega,by (first | omega | (simp only [lenOk,bytesOk,inI,IntKind.bits,List.length_append,Bs_len,List.length_cons,List.length_nil,List.length_map,List.length_take,List.length_drop,List.length_replicate]; omega)),by omega,by omega,⟨by rw [List.length_append,List.length_map]; simp only [lenOk,List.length_cons,List.length_nil]; omega,by rw [List.length_append,List.length_map]; simp only [bytesOk,List.length_cons,List.length_nil]; omega⟩,by (first | omega | (simp only [lenOk,bytesOk,inI,IntKind.bits,List.length_append,Bs_len,List.length_cons,List.length_nil,List.length_map,List.length_take,List.length_drop,List.length_replicate]; omega)),hR2 _ (i+1) (by omega) (by omega) ?_⟩
      obtain ⟨g1,g2⟩:=sg_more (sgK ls j) (idxU ls (j+1) i) i
      rw [htc,hix,g1,g2,← cntP_set2 ls _ (by omega) (by omega)]
      rfl
     ·have c3:decide (((ls.getD i 0:Nat):Int)=((j+1:Nat):Int))=false:=decide_eq_false (fun h=>he (by exact_mod_cast h))
      rw [if_neg he] at htc hix
      simp only [b_imade_0,c2,c3,hge,hcn,Int.toNat_natCast,go_sem,reduceDiv,reduceMod,↓reduceIte,reduceEqDiff,Nat.reduceBEq,reduceSub,Nat.reduceLT,reduceAdd,reduceLeDiff,reduceCtorEq,Int.reduceEq,Int.reduceNe,Int.reduceLT,Int.reduceLE,Int.reduceToNat]
      refine ⟨by omega,by (first | omega | (simp only [lenOk,bytesOk,inI,IntKind.bits,List.length_append,Bs_len,List.length_cons,List.length_nil,List.length_map,List.length_take,List.length_drop,List.length_replicate]; omega)),hR2 _ (i+1) (by omega) (by omega) ?_⟩
      rw [htc,hix,List.append_nil]
      rfl
    ·have c2:decide ((i:Int)<(ls.length:Int))=false:=decide_eq_false (by omega)
     obtain rfl:i=ls.length:=by omega
     simp only [b_imade_0,t_imade_0,c2,go_sem,reduceDiv,reduceMod,↓reduceIte,reduceEqDiff,Nat.reduceBEq,reduceSub,Nat.reduceLT,reduceAdd,reduceLeDiff,reduceCtorEq,Int.reduceEq,Int.reduceNe,Int.reduceLT,Int.reduceLE,Int.reduceToNat]
     refine ⟨by (first | omega | (simp only [lenOk,bytesOk,inI,IntKind.bits,List.length_append,Bs_len,List.length_cons,List.length_nil,List.length_map,List.length_take,List.length_drop,List.length_replicate]; omega)),hR _ (j+1) (by omega) (by omega) ?_⟩
     rw [sgK_succ,← cntP_next ls (j+1)]
     show _=some _
     unfold cntL idxs
     rw [List.take_length]
     rfl
   ·have c1:decide (((j+1:Nat):Int)<16)=false:=decide_eq_false (by omega)
    obtain rfl:j=15:=by omega
    have hkr0:((krL ls 0 * 2 ^ (15 - 0):Nat):Int)=0:=by simp [krL,fstL]
    simp only [b_imade_1,t_imade_2,c1,go_sem,reduceDiv,reduceMod,↓reduceIte,reduceEqDiff,Nat.reduceBEq,reduceSub,Nat.reduceLT,reduceAdd,reduceLeDiff,reduceCtorEq,Int.reduceEq,Int.reduceNe,Int.reduceLT,Int.reduceLE,Int.reduceToNat]
    refine loop2P [] [1,4,5,9,10] [0,1,2] (fun j:Nat=>⟨[(1,.bool lo),(4,.ref 0 0 0),(5,.ref 1 0 0),(9,.int .i64 ((krL ls j * 2 ^ (15 - j):Nat):Int)),(10,.int .i64 ((j+1:Nat):Int))],[.cells 128 [(16,.blob (List.replicate 16 (.int .i64 0))),(1,.con (.slice none 0 0))],.cells 128 [(16,.blob (cntV ls)),(1,.own 2 (sgs ls).length)],.row 3 1 (sgs ls).length ((sgs ls).map iV)]⟩) (fun j=>j≤15) (fun j=>15 - j) 0 (by rw [hkr0,← cntP_last]; rfl) (Nat.zero_le _) ⟨rfl,by rfl⟩ (fun j hj2 R3 hR3=>?_)
    by_cases hj15:j<15
    ·have c2:decide (((j+1:Nat):Int)<16)=true:=decide_eq_true (by omega)
     have hcv:=fun d=>cntV_get ls (l:=j+1) (by omega) d
     have hc0:cnt0 ls (j+1)=cntL ls (j+1):=if_neg (by omega)
     rw [hc0] at hcv
     have hks:=kr_step ls hj15
     have hkl:=kr_leT ls (j+1) (by omega)
     have htl:=tot_le ls (j+1)
     have e1:(15:Int) - ((j+1:Nat):Int)=((15 - (j+1):Nat):Int):=by omega
     have e2:((cntL ls (j+1):Nat):Int) * 2 ^ (15 - (j+1))=((cntL ls (j+1) * 2 ^ (15 - (j+1)):Nat):Int):=by push_cast; rfl
     simp only [b_imade_2,c2,hcv,e1,e2,Int.toNat_natCast,cntV_len,go_sem,reduceDiv,reduceMod,↓reduceIte,reduceEqDiff,Nat.reduceBEq,reduceSub,Nat.reduceLT,reduceAdd,reduceLeDiff,reduceCtorEq,Int.reduceEq,Int.reduceNe,Int.reduceLT,Int.reduceLE,Int.reduceToNat]
     have e3:((krL ls j * 2 ^ (15 - j):Nat):Int)+((cntL ls (j+1) * 2 ^ (15 - (j+1)):Nat):Int)=((krL ls (j+1) * 2 ^ (15 - (j+1)):Nat):Int):=by rw [← hks]; push_cast; rfl
     have e4:cntL ls (j+1) * 2 ^ (15 - (j+1))≤krL ls (j+1) * 2 ^ (15 - (j+1)):=by rw [← hks]; exact Nat.le_add_left _ _
     rw [e3]
     have q1:inI ((krL ls (j+1) * 2 ^ (15 - (j+1)):Nat):Int):=by
      clear hcv e2 e3 hks hc0 hR3 hR
      generalize krL ls (j+1) * 2 ^ (15 - (j+1))=z at *
      (first | omega | (simp only [lenOk,bytesOk,inI,IntKind.bits,List.length_append,Bs_len,List.length_cons,List.length_nil,List.length_map,List.length_take,List.length_drop,List.length_replicate]; omega))
     have q2:inI ((cntL ls (j+1) * 2 ^ (15 - (j+1)):Nat):Int):=by
      clear hcv e2 e3 hks hc0 hR3 hR
      generalize krL ls (j+1) * 2 ^ (15 - (j+1))=z at *
      generalize cntL ls (j+1) * 2 ^ (15 - (j+1))=z2 at *
      (first | omega | (simp only [lenOk,bytesOk,inI,IntKind.bits,List.length_append,Bs_len,List.length_cons,List.length_nil,List.length_map,List.length_take,List.length_drop,List.length_replicate]; omega))
     refine ⟨by omega,by omega,by (first | omega | (simp only [lenOk,bytesOk,inI,IntKind.bits,List.length_append,Bs_len,List.length_cons,List.length_nil,List.length_map,List.length_take,List.length_drop,List.length_replicate]; omega)),⟨by omega,q2⟩,q1,by (first | omega | (simp only [lenOk,bytesOk,inI,IntKind.bits,List.length_append,Bs_len,List.length_cons,List.length_nil,List.length_map,List.length_take,List.length_drop,List.length_replicate]; omega)),hR3 _ (j+1) (by omega) (by omega) rfl⟩
    ·have c2:decide (((j+1:Nat):Int)<16)=false:=decide_eq_false (by omega)
     obtain rfl:j=15:=by omega
     have e1:krL ls 15 * 2 ^ (15 - 15)=krL ls 15:=by simp
     rw [e1]
     have hcv:=fun d=>cntV_get ls (l:=1) (by omega) d
     have hc0:cnt0 ls 1=cntL ls 1:=if_neg (by omega)
     rw [hc0] at hcv
     by_cases k1:krL ls 15=32768
     ·have c4:decide (((krL ls 15:Nat):Int)=32768)=true:=decide_eq_true (by omega)
      simp only [b_imade_2,t_imade_1,r_imade,c2,c4,hcv,cntV_len,List.length_map,sgs_len,go_sem,reduceDiv,reduceMod,↓reduceIte,reduceEqDiff,Nat.reduceBEq,reduceSub,Nat.reduceLT,reduceAdd,reduceLeDiff,reduceCtorEq,Int.reduceEq,Int.reduceNe,Int.reduceLT,Int.reduceLE,Int.reduceToNat]
     ·have c4:decide (((krL ls 15:Nat):Int)=32768)=false:=decide_eq_false (by omega)
      by_cases k2:totL ls 15=1
      ·have c5:decide (((totL ls 15:Nat):Int)=1)=true:=decide_eq_true (by omega)
       by_cases k3:cntL ls 1=1
       ·have c6:decide (((cntL ls 1:Nat):Int)=1)=true:=decide_eq_true (by omega)
        simp only [b_imade_2,t_imade_1,r_imade,c2,c4,c5,c6,hcv,cntV_len,List.length_map,sgs_len,go_sem,reduceDiv,reduceMod,↓reduceIte,reduceEqDiff,Nat.reduceBEq,reduceSub,Nat.reduceLT,reduceAdd,reduceLeDiff,reduceCtorEq,Int.reduceEq,Int.reduceNe,Int.reduceLT,Int.reduceLE,Int.reduceToNat]
       ·exfalso; revert hg; simp [goodL,k1,k2,k3]
      ·have c5:decide (((totL ls 15:Nat):Int)=1)=false:=decide_eq_false (by omega)
       cases lo with
       | false=>exfalso; revert hg; simp [goodL,k1,k2]
       | true =>
        by_cases k3:totL ls 15=0
        ·have c6:decide (((totL ls 15:Nat):Int)=0)=true:=decide_eq_true (by omega)
         simp only [b_imade_2,t_imade_1,r_imade,c2,c4,c5,c6,hcv,cntV_len,List.length_map,sgs_len,go_sem,reduceDiv,reduceMod,↓reduceIte,reduceEqDiff,Nat.reduceBEq,reduceSub,Nat.reduceLT,reduceAdd,reduceLeDiff,reduceCtorEq,Int.reduceEq,Int.reduceNe,Int.reduceLT,Int.reduceLE,Int.reduceToNat]
        ·exfalso; revert hg; simp [goodL,k1,k2,k3]
  ·cases hs
 ·cases hs
end Go.Proofs.YtakolikdebfkeaaDoor
namespace Go.Proofs.YtakolikdebfkeaaDoor
open Go.RowKit
theorem fix_at:∀ k,k<288→fixL.getD k 0=fixN k:=by decide +kernel
theorem fixD_at:∀ k,k<32→fixD.getD k 0=5:=by decide +kernel
theorem take_iV (ls:List Nat) {i:Nat} (h:i<ls.length):(ls.take (i+1)).map iV=(ls.take i).map iV ++ [.int .i64 ((ls.getD i 0:Nat):Int)]:=by
 rw [List.take_add_one,List.getElem?_eq_getElem h,List.map_append,List.getD_eq_getElem?_getD,List.getElem?_eq_getElem h]; rfl
theorem take_iV_len (ls:List Nat) {i:Nat} (h:i≤ls.length):((ls.take i).map iV).length=i:=by
 rw [List.length_map,List.length_take]; omega
def ownC (ls:List Nat) (i:Nat):AV:=.agg [(16,.blob (cntV ls)),(1,.own i (sgs ls).length)]
def sgR (ls:List Nat):AObj:=.row 3 1 (sgs ls).length ((sgs ls).map iV)
def ifix0S:Spec:=fun xs hp=>match xs,hp with
 | [],[]=>some ⟨.tup [ownC fixL 0,ownC fixD 1],[sgR fixL,sgR fixD],True⟩
 | _,_=>none
set_option maxHeartbeats 1000000 in
theorem ifix0_ok:FnOk Tryd.prog 73 ifix0S:=by
 refine fn_slim2 Tryd.func73 s_ifix (Φ:=phiL [(100,[],imade0S)]) (phi_cons imade0_ok (by kernel_rfl) phi_nil) ?_
 intro xs hp r hs hp'
 unfold ifix0S at hs
 split at hs
 ·injection hs with hs; subst hs
  refine ⟨len_le (by kernel_rfl),?_⟩
  simp only [c_ifix,go_sem,reduceDiv,reduceMod,↓reduceIte,reduceEqDiff,Nat.reduceBEq,reduceSub,Nat.reduceLT,reduceAdd,reduceLeDiff,reduceCtorEq,Int.reduceEq,Int.reduceNe,Int.reduceLT,Int.reduceLE,Int.reduceToNat]
  refine loop2P [(2,3,1)] [0,1,2,3,5] [0,1,2] (fun i:Nat=>⟨[(0,.ref 0 0 0),(1,.ref 1 0 0),(2,.own 2 i),(3,.con (.slice none 0 0)),(5,.int .i64 (i:Int))],[.cells 128 [(16,.blob (List.replicate 16 (.int .i64 0))),(1,.con (.slice none 0 0))],.cells 128 [(16,.blob (List.replicate 16 (.int .i64 0))),(1,.con (.slice none 0 0))],.row 3 1 i ((fixL.take i).map iV)]⟩) (fun i=>i≤288) (fun i=>288 - i) 0 (by rfl) (Nat.zero_le _) ⟨rfl,by rfl⟩ (fun i hi R hR=>?_)
  by_cases hil:i<288
  ·have c1:decide ((i:Int)<288)=true:=decide_eq_true (by omega)
   have hta:=take_iV fixL (i:=i) (by rw [fix_len]; exact hil)
   have htl:=take_iV_len fixL (i:=i) (by rw [fix_len]; omega)
   rw [fix_at i hil] at hta
   by_cases h1:i<144
   ·have c2:decide ((i:Int)<144)=true:=decide_eq_true (by omega)
    rw [show fixN i=8 by unfold fixN; rw [if_pos h1]] at hta
    simp only [b_ifix_0,c1,c2,go_sem,reduceDiv,reduceMod,↓reduceIte,reduceEqDiff,Nat.reduceBEq,reduceSub,Nat.reduceLT,reduceAdd,reduceLeDiff,reduceCtorEq,Int.reduceEq,Int.reduceNe,Int.reduceLT,Int.reduceLE,Int.reduceToNat]
    refine ⟨⟨by rw [List.length_append,htl]; simp only [lenOk,List.length_cons,List.length_nil]; omega,by rw [List.length_append,htl]; simp only [bytesOk,List.length_cons,List.length_nil]; omega⟩,by (first | omega | (simp only [lenOk,bytesOk,inI,IntKind.bits,List.length_append,Bs_len,List.length_cons,List.length_nil,List.length_map,List.length_take,List.length_drop,List.length_replicate]; omega)),hR _ (i+1) (by omega) (by omega) ?_⟩
    rw [hta]; rfl
   ·have c2:decide ((i:Int)<144)=false:=decide_eq_false (by omega)
    by_cases h2:279<i
    ·have c3:decide ((279:Int)<(i:Int))=true:=decide_eq_true (by omega)
     rw [show fixN i=8 by unfold fixN; rw [if_neg h1,if_neg (by omega),if_neg (by omega)]] at hta
     simp only [b_ifix_0,c1,c2,c3,go_sem,reduceDiv,reduceMod,↓reduceIte,reduceEqDiff,Nat.reduceBEq,reduceSub,Nat.reduceLT,reduceAdd,reduceLeDiff,reduceCtorEq,Int.reduceEq,Int.reduceNe,Int.reduceLT,Int.reduceLE,Int.reduceToNat]
     refine ⟨⟨by rw [List.length_append,htl]; simp only [lenOk,List.length_cons,List.length_nil]; omega,by rw [List.length_append,htl]; simp only [bytesOk,List.length_cons,List.length_nil]; omega⟩,by (first | omega | (simp only [lenOk,bytesOk,inI,IntKind.bits,List.length_append,Bs_len,List.length_cons,List.length_nil,List.length_map,List.length_take,List.length_drop,List.length_replicate]; omega)),hR _ (i+1) (by omega) (by omega) ?_⟩
     rw [hta]; rfl
    ·have c3:decide ((279:Int)<(i:Int))=false:=decide_eq_false (by omega)
     by_cases h3:i<256
     ·have c4:decide ((i:Int)<256)=true:=decide_eq_true (by omega)
      rw [show fixN i=9 by unfold fixN; rw [if_neg h1,if_pos (by omega)]] at hta
      simp only [b_ifix_0,c1,c2,c3,c4,go_sem,reduceDiv,reduceMod,↓reduceIte,reduceEqDiff,Nat.reduceBEq,reduceSub,Nat.reduceLT,reduceAdd,reduceLeDiff,reduceCtorEq,Int.reduceEq,Int.reduceNe,Int.reduceLT,Int.reduceLE,Int.reduceToNat]
      refine ⟨⟨by rw [List.length_append,htl]; simp only [lenOk,List.length_cons,List.length_nil]; omega,by rw [List.length_append,htl]; simp only [bytesOk,List.length_cons,List.length_nil]; omega⟩,by (first | omega | (simp only [lenOk,bytesOk,inI,IntKind.bits,List.length_append,Bs_len,List.length_cons,List.length_nil,List.length_map,List.length_take,List.length_drop,List.length_replicate]; omega)),hR _ (i+1) (by omega) (by omega) ?_⟩
      rw [hta]; rfl
     ·have c4:decide ((i:Int)<256)=false:=decide_eq_false (by omega)
      rw [show fixN i=7 by unfold fixN; rw [if_neg h1,if_neg (by omega),if_pos (by omega)]] at hta
      simp only [b_ifix_0,c1,c2,c3,c4,go_sem,reduceDiv,reduceMod,↓reduceIte,reduceEqDiff,Nat.reduceBEq,reduceSub,Nat.reduceLT,reduceAdd,reduceLeDiff,reduceCtorEq,Int.reduceEq,Int.reduceNe,Int.reduceLT,Int.reduceLE,Int.reduceToNat]
      refine ⟨⟨by rw [List.length_append,htl]; simp only [lenOk,List.length_cons,List.length_nil]; omega,by rw [List.length_append,htl]; simp only [bytesOk,List.length_cons,List.length_nil]; omega⟩,by (first | omega | (simp only [lenOk,bytesOk,inI,IntKind.bits,List.length_append,Bs_len,List.length_cons,List.length_nil,List.length_map,List.length_take,List.length_drop,List.length_replicate]; omega)),hR _ (i+1) (by omega) (by omega) ?_⟩
      rw [hta]; rfl
  ·have c1:decide ((i:Int)<288)=false:=decide_eq_false (by omega)
   obtain rfl:i=288:=by omega
   have hfl:fixL.take 288=fixL:=List.take_of_length_le (by rw [fix_len]; omega)
   rw [hfl]
   simp only [b_ifix_0,t_ifix_1,c1,go_sem,reduceDiv,reduceMod,↓reduceIte,reduceEqDiff,Nat.reduceBEq,reduceSub,Nat.reduceLT,reduceAdd,reduceLeDiff,reduceCtorEq,Int.reduceEq,Int.reduceNe,Int.reduceLT,Int.reduceLE,Int.reduceToNat]
   refine loop2P [(3,3,1)] [0,1,2,3,26] [0,1,2,3] (fun i:Nat=>⟨[(0,.ref 0 0 0),(1,.ref 1 0 0),(2,.own 2 288),(3,.own 3 i),(26,.int .i64 (i:Int))],[.cells 128 [(16,.blob (List.replicate 16 (.int .i64 0))),(1,.con (.slice none 0 0))],.cells 128 [(16,.blob (List.replicate 16 (.int .i64 0))),(1,.con (.slice none 0 0))],.row 3 1 288 (fixL.map iV),.row 3 1 i ((fixD.take i).map iV)]⟩) (fun i=>i≤32) (fun i=>32 - i) 0 (by rfl) (Nat.zero_le _) ⟨rfl,by rfl⟩ (fun i hi R2 hR2=>?_)
   by_cases hil:i<32
   ·have c2:decide ((i:Int)<32)=true:=decide_eq_true (by omega)
    have hta:=take_iV fixD (i:=i) (by rw [fixD_len]; exact hil)
    have htl:=take_iV_len fixD (i:=i) (by rw [fixD_len]; omega)
    rw [fixD_at i hil] at hta
    simp only [b_ifix_1,c2,go_sem,reduceDiv,reduceMod,↓reduceIte,reduceEqDiff,Nat.reduceBEq,reduceSub,Nat.reduceLT,reduceAdd,reduceLeDiff,reduceCtorEq,Int.reduceEq,Int.reduceNe,Int.reduceLT,Int.reduceLE,Int.reduceToNat]
    refine ⟨⟨by rw [List.length_append,htl]; simp only [lenOk,List.length_cons,List.length_nil]; omega,by rw [List.length_append,htl]; simp only [bytesOk,List.length_cons,List.length_nil]; omega⟩,by (first | omega | (simp only [lenOk,bytesOk,inI,IntKind.bits,List.length_append,Bs_len,List.length_cons,List.length_nil,List.length_map,List.length_take,List.length_drop,List.length_replicate]; omega)),hR2 _ (i+1) (by omega) (by omega) ?_⟩
    rw [hta]; rfl
   ·have c2:decide ((i:Int)<32)=false:=decide_eq_false (by omega)
    obtain rfl:i=32:=by omega
    have hfd:fixD.take 32=fixD:=List.take_of_length_le (by rw [fixD_len]; omega)
    rw [hfd]
    have g1:goodL fixL false=true:=by unfold goodL; rw [fix_room]; rfl
    have g2:goodL fixD false=true:=by unfold goodL; rw [fixD_room]; rfl
    simp only [b_ifix_1,t_ifix_0,r_ifix,c2,imade0S,unN_iV,g1,g2,ownC,sgR,go_sem,reduceDiv,reduceMod,↓reduceIte,reduceEqDiff,Nat.reduceBEq,reduceSub,Nat.reduceLT,reduceAdd,reduceLeDiff,reduceCtorEq,Int.reduceEq,Int.reduceNe,Int.reduceLT,Int.reduceLE,Int.reduceToNat]
    have l1:lensOk 1 (fixL.map iV):=⟨by rw [unN_iV],.inl rfl,by rw [unN_iV,fix_len]; omega⟩
    have l2:lensOk 1 (fixD.map iV):=⟨by rw [unN_iV],.inl rfl,by rw [unN_iV,fixD_len]; omega⟩
    have fl:∀ (ls:List Nat) (x:AV),x∈ls.map iV→∃ i:Nat,x=.int .i64 (i:Int):=fun ls x hx=>by
     obtain ⟨i,_,rfl⟩:=List.mem_map.1 hx
     exact ⟨i,rfl⟩
    refine ⟨⟨l1,fun x hx=>by obtain ⟨i,rfl⟩:=fl _ x hx; rfl⟩,⟨l2,fun x hx=>by obtain ⟨i,rfl⟩:=fl _ x hx; rfl⟩⟩
 ·cases hs
def ifixS:Spec:=fun xs hp=>match xs,hp with
 | [],[]=>some ⟨.tup [codeV fixL,codeV fixD],[],True⟩
 | _,_=>none
theorem ifix_ok:FnOk Tryd.prog 73 ifixS:=ifix0_ok.freezeD fun xs hp r' hs hp' => by
 unfold ifixS at hs
 split at hs
 ·injection hs with hs; subst hs
  refine ⟨rfl,_,rfl,hp',rfl,?_,rfl,rfl⟩
  simp [fzV,fzD,codeV,ownC,sgR]
 ·cases hs
end Go.Proofs.YtakolikdebfkeaaDoor
namespace Go.Proofs.YtakolikdebfkeaaDoor
open Go.RowKit
section
variable {P : Program} {F : Nat → Prop} {w0 w w' : World} {S S' S0 : Nat → Prop} {ρ ρ' ρ0 : Rho} {N N' : Nat} {ds ds' : List Deferred} {s s' : St} {a a' : Act} {hp hp' : List AObj}
theorem HeapOk.base (H:HeapOk F w0 S ρ hp w):HeapOk (Lent ρ hp) w S ρ hp w:=⟨Kept.refl _ _,H.ob,H.apart,fun id o h b hb=>.inl ⟨id,o,h,hb⟩,H.slt,H.new,H.vers⟩
theorem HeapOk.unbase (H:HeapOk F w0 S ρ hp w) (H' : HeapOk (Lent ρ hp) w S' ρ' hp' w'):HeapOk F w0 S' ρ' hp' w' := by
 refine ⟨H.kept.cont H'.kept (fun b ⟨id,o,ho,hb⟩=>H.mine id o ho b hb),H'.ob,H'.apart,fun id o h b hb=>?_,H'.slt,H'.new,H'.vers⟩
 rcases H'.mine id o h b hb with ⟨id',o',ho',hb'⟩ | h
 ·exact H.mine id' o' ho' b hb'
 ·exact .inr (Nat.le_trans H.kept.size h)
theorem sin_un (H:HeapOk F w0 S ρ hp w) (h0:∀ b,S b→S0 b∨F b∨w0.heap.size≤b) (h1:∀ b,S' b→S b∨Lent ρ hp b∨w.heap.size≤b):∀ b,S' b→S0 b∨F b∨w0.heap.size≤b:=by
 intro b hb
 rcases h1 b hb with h | ⟨id,o,ho,h⟩ | h
 ·exact h0 b h
 ·exact .inr (H.mine id o ho b h)
 ·exact .inr (.inr (Nat.le_trans H.kept.size h))
theorem fin_ok {fn:Func} {rs:List ARes} {r:Ret} {hp0:List AObj} (hr:All2 (MtR P) fn.results.toList rs) (hfin:finP hp0.length r s (aret s rs)) (H0:∀ id,hp0.length≤id→∀ v,ρ0 id v=none)
  (H:HeapOk F w0 S ρ s.hp w) (hf:FrOk w S ρ s.fr a.tmps) (hs:∀ b,S b→S0 b∨F b∨w0.heap.size≤b) (hE:Ext w0 w S0 S ρ0 ρ) :
  ∃ v,(results fn a.tmps).run P w=.ok v w∧∃ S' ρ',Vl w S' ρ' r.v v∧HeapOk F w0 S' ρ' r.hp w∧Ext w0 w S0 S' ρ0 ρ' ∧ (∀ b,S' b→S0 b∨w0.heap.size≤b∨F b):=by
 unfold finP at hfin
 split at hfin
 ·rename_i x p hx
  obtain ⟨hp1,hfin⟩:=hfin
  generalize closeIds s.hp 2 (addNew (List.range hp0.length) (idsOf 4 x))=ids at hfin
  obtain ⟨i1,i2,i3,i4⟩:=hfin
  obtain ⟨v,hv1,hv2⟩:=aret_ok H.obs hf hr hx hp1
  obtain ⟨H',hσ⟩:=H.restr i2 i4
  refine ⟨v,hv1,S,_,ren_vl hσ i3 hv2,H',⟨hE.mem,hE.st,fun i u L hL=>?_⟩,fun b hb=>?_⟩
  ·have hi:i<hp0.length:=by
    rcases Nat.lt_or_ge i hp0.length with h1 | h1
    ·exact h1
    ·rw [H0 i h1] at hL; cases hL
   have h1:ids[i]?=some i:=by
    have:(ids.take hp0.length)[i]?=some i:=by rw [i1]; simp [hi]
    rw [List.getElem?_take,if_pos hi] at this; exact this
   simp only [h1]
   exact hE.loc _ _ _ hL
  ·rcases hs b hb with h | h | h
   ·exact .inl h
   ·exact .inr (.inr h)
   ·exact .inr (.inl h)
 ·exact hfin.elim
def constPs (ps:List (Nat × AV)):Bool:=ps.all fun p=>constB 4 p.2
def cellsB:AObj→Bool
 | .cells _ ps=>constPs ps
 | _=>false
theorem const_css {w w' : World} {S S' : Nat→Prop} {ρ ρ' : Rho}:∀ {ps:List (Nat × AV)} {us:List Value},constPs ps=true→Css w S ρ ps us→Css w' S' ρ' ps us
 | [],us,_,hc=>hc
 | (s,x) :: ps,us,h,hc=>by
  obtain ⟨u1,u2,rfl,h1,h2,h3⟩:=hc
  simp only [constPs,List.all_cons,Bool.and_eq_true] at h
  exact ⟨u1,u2,rfl,h1,const_cs 4 h.1 h2,const_css h.2 h3⟩
theorem thrown_heap {x:AV} {st:St} {ids:List Nat} {v:Value} {hpD:List AObj} {w1:World} {S1:Nat→Prop} {ρ1:Rho} (H1:HeapOk F w0 S1 ρ1 hpD w1) (h:RelX (Lent ρ1 hpD) w1 S1 ρ1 ds x st ids v a w)
  (ht:st.hp.take hpD.length=hpD) (hids:∀ i∈ids,hpD.length≤i) (hcells:∀ o∈hpD,cellsB o=true) :
  ∃ ρ3,HeapOk (Lent ρ1 hpD) w1 S1 ρ3 hpD w∧Ext w1 w S1 S1 ρ1 ρ3 ∧
   ∀ t i:Nat,i<hpD.length→lk st.fr t=.ref i 0 0→Vl w S1 ρ3 (.ref i 0 0) (a.tmps.getD t undef):=by
 obtain ⟨hv,hdf,wA,S,ρ,H3,hK,hE,hf⟩:=h
 have at_:∀ (i:Nat) (o:AObj),hpD[i]?=some o→st.hp[i]?=some o:=by
  intro i o ho
  have hi:i<hpD.length:=(List.getElem?_eq_some_iff.1 ho).1
  rw [← ht,List.getElem?_take,if_pos hi] at ho; exact ho
 have keepB:∀ (i:Nat) (o:AObj) (b:Nat),hpD[i]?=some o→o.blk ρ i=some b→w.heap[b]?=wA.heap[b]?:=by
  intro i o b ho hb
  refine hK.block b ((H3.ob i o (at_ i o ho)).lt b hb) fun ⟨id,o',hid,ho',hb'⟩=>?_
  have hi:i<hpD.length:=(List.getElem?_eq_some_iff.1 ho).1
  have:=hids id hid
  exact H3.apart i id o o' (by omega) (at_ i o ho) ho' b hb hb'
 have keepS:∀ b,S1 b→w.heap[b]?=w1.heap[b]?:=by
  intro b hb
  rw [hK.block b (Nat.lt_of_lt_of_le (H1.slt b hb) H3.kept.size) (fun ⟨id,o',hid,ho',hb'⟩=>(H3.ob id o' ho').notS b hb' (hE.st b hb))]
  exact hE.mem b hb
 let ρ3:Rho:=fun i v=>if i<hpD.length then ρ i v else none
 have hρ:∀ {i:Nat},i<hpD.length→∀ v,ρ3 i v=ρ i v:=fun h v=>if_pos h
 have blkE:∀ (i:Nat) (o:AObj),i<hpD.length→o.blk ρ3 i=o.blk ρ i:=by
  intro i o hi
  cases o <;> simp only [AObj.blk,hρ hi]
 have hsz:w1.heap.size≤w.heap.size:=Nat.le_trans H3.kept.size hK.size
 refine ⟨ρ3,⟨H3.kept.cont hK (fun b ⟨id,o,_,ho,hb⟩=>H3.mine id o ho b hb),fun i o ho=>?_,fun i j y z hij hy hz b hyb hzb=>?_,fun i o ho b hb=>?_,fun b hb=>Nat.lt_of_lt_of_le (H1.slt b hb) hsz,fun i hi v=>if_neg (by omega),fun i o ho v hv=>?_⟩,⟨keepS,fun _ h=>h,fun i v L hL=>?_⟩,fun t i hi hl=>?_⟩
 ·have hi:i<hpD.length:=(List.getElem?_eq_some_iff.1 ho).1
  have hob:=H3.ob i o (at_ i o ho)
  have hc:=hcells o (List.mem_of_getElem? ho)
  cases o with
  | cells t ps =>
   obtain ⟨g,us,q1,q2,q3,q4⟩:=hob
   refine ⟨g,us,by rw [hρ hi]; exact q1,?_,const_css hc q3,fun hs=>q4 (hE.st g hs)⟩
   rw [keepB i _ g ho (by simp [AObj.blk,q1,ablk])]; exact q2
  | _=>cases hc
 ·have hi:i<hpD.length:=(List.getElem?_eq_some_iff.1 hy).1
  have hj:j<hpD.length:=(List.getElem?_eq_some_iff.1 hz).1
  rw [blkE i y hi] at hyb
  rw [blkE j z hj] at hzb
  exact H3.apart i j y z hij (at_ i y hy) (at_ j z hz) b hyb hzb
 ·have hi:i<hpD.length:=(List.getElem?_eq_some_iff.1 ho).1
  rw [blkE i o hi] at hb
  exact H3.mine i o (at_ i o ho) b hb
 ·have hi:i<hpD.length:=(List.getElem?_eq_some_iff.1 ho).1
  rw [hρ hi]
  exact H3.vers i o (at_ i o ho) v hv
 ·have hi:i<hpD.length:=by
   rcases Nat.lt_or_ge i hpD.length with h1 | h1
   ·exact h1
   ·rw [H1.new i h1] at hL; cases hL
  rw [hρ hi]; exact hE.loc _ _ _ hL
 ·have h1:=hf.2 t
  rw [hl] at h1
  obtain ⟨us,hc,e⟩:=h1.cs (by simp) (by simp)
  refine Vl1.vl (.inr ⟨us,?_,e⟩)
  cases hc with
  | ref _ _ _ g L k1 k2=>exact .ref _ _ _ g L (by rw [hρ hi]; exact k1) k2
end
section
variable {P : Program} {w : World} {a : Act}
theorem run_mkfn3 {o:Oper} {g t0 t1 t2:Nat} (h:o.op=.makeFunc (.func g) #[] #[.tmp t0,.tmp t1,.tmp t2]) :
  (execOp a.eval o).run P w=.ok (.value (.func (.func g) #[] #[a.eval (.tmp t0),a.eval (.tmp t1),a.eval (.tmp t2)])) w:=by
 simp [execOp,h,Instr.makeFunc,Sem.run]
theorem run_dfr {o:Oper} {g t9:Nat} {caps:Array Value} {ts:Array TypeId} (h:o.op=.defer { callee:=.value (.tmp t9),args:=#[],argTypes:=ts }) (he:a.eval (.tmp t9)=.func (.func g) #[] caps) :
  (execOp a.eval o).run P w=.ok (.defer { target:=.fn (.func g) caps,args:=#[] }) w:=by
 simp [execOp,h,he,resolve,Deferred.ofValue,Sem.run]
theorem run_leave {g : Nat} {caps : Array Value} (hf : FnIn P g) : (invoke (.fn (.func g) caps) #[]).run P w = .ok (.enter g caps) w := by
 obtain ⟨fn, h1, h2, h3⟩ := hf
 have h2' : ¬ fn.name = "runtime.NumGoroutine" := by simpa using h2
 have h3' : ¬ fn.body = none := by intro e; rw [e] at h3; cases h3
 simp [invoke, callFunc, program, Sem.run, h1, h2', h3']
def slimN (any:List Nat) (P:Program) (N:Nat):Code→Option ACode
 | .skip=>some .skip
 | .label _=>some .skip
 | .region _ ops false=>(mapO (slimOper P N ops) ops.toList).map (.reg none)
 | .region id ops true=>match mapO (slimOper P N ops) ops.toList with
  | some l=>if any.contains id then (anyHid P ops l).map fun hid=>.reg (some hid) l else (drawHidG true P ops l).map fun hid=>.reg (some hid) l
  | none=>none
 | .seq x y=>match slimN any P N x,slimN any P N y with
  | some x',some y' => some (.seq x' y')
  | _,_=>none
 | .cond c x y=>match slimN any P N x,slimN any P N y with
  | some x',some y' => some (.cond (opd c) x' y')
  | _,_=>none
 | .block i c=>(slimN any P N c).map (.block i)
 | .loop c=>(slimN any P N c).map .loop
 | .exit i=>some (.exit i)
 | .ret=>some .ret
 | .scope c=>(slimN any P N c).map .scope
 | _=>none
theorem slimN_ok {any:List Nat} {N:Nat}:∀ {code:Code} {ac:ACode},slimN any P N code=some ac→MtC P N code ac:=by
 intro code
 induction code with
 | skip=>intro ac h; simp only [slimN,Option.some.injEq] at h; subst h; trivial
 | label l=>intro ac h; simp only [slimN,Option.some.injEq] at h; subst h; trivial
 | region id ops draw =>
  intro ac h
  cases draw with
  | false =>
   simp only [slimN] at h
   obtain ⟨l,hl,rfl⟩:=Option.map_eq_some_iff.1 h
   exact all2_mapO (fun _ _=>slimOper_ok) hl
  | true =>
   simp only [slimN] at h
   split at h
   ·rename_i l hl
    split at h
    ·obtain ⟨hid,hh,rfl⟩:=Option.map_eq_some_iff.1 h
     exact ⟨all2_mapO (fun _ _=>slimOper_ok) hl,by rw [(anyHid_ok hh).1,if_pos rfl]; exact (anyHid_ok hh).2⟩
    ·obtain ⟨hid,hh,rfl⟩:=Option.map_eq_some_iff.1 h
     exact ⟨all2_mapO (fun _ _=>slimOper_ok) hl,by rw [(drawHidG_ok hh).1,if_neg Bool.false_ne_true]; exact (drawHidG_ok hh).2⟩
   ·cases h
 | seq x y ihx ihy =>
  intro ac h
  simp only [slimN] at h
  split at h
  ·rename_i x' y' h1 h2; injection h with h; subst h; exact ⟨ihx h1,ihy h2⟩
  ·cases h
 | cond c x y ihx ihy =>
  intro ac h
  simp only [slimN] at h
  split at h
  ·rename_i x' y' h1 h2; injection h with h; subst h; exact ⟨rfl,ihx h1,ihy h2⟩
  ·cases h
 | block i c ih=>intro ac h; simp only [slimN] at h; obtain ⟨c',hc,rfl⟩:=Option.map_eq_some_iff.1 h; exact ⟨rfl,ih hc⟩
 | loop c ih=>intro ac h; simp only [slimN] at h; obtain ⟨c',hc,rfl⟩:=Option.map_eq_some_iff.1 h; exact ih hc
 | exit i=>intro ac h; simp only [slimN,Option.some.injEq] at h; subst h; rfl
 | ret=>intro ac h; simp only [slimN,Option.some.injEq] at h; subst h; trivial
 | scope c ih=>intro ac h; simp only [slimN] at h; obtain ⟨c',hc,rfl⟩:=Option.map_eq_some_iff.1 h; exact ih hc
 | _=>intro ac h; cases h
def slimFN (any:List Nat) (P:Program) (fn:Func):Option (ACode × List ARes) :=
 match fn.body with
 | some c=>match slimN any P fn.ntmps c,mapO (slimR P) fn.results.toList with
  | some ac,some rs=>some (ac,rs)
  | _,_=>none
 | none=>none
theorem slimFN_ok {any:List Nat} {fn:Func} {ac:ACode} {rs:List ARes} {c:Code} (hs:slimFN any P fn=some (ac,rs)) (hb:fn.body=some c):MtC P fn.ntmps c ac∧All2 (MtR P) fn.results.toList rs:=by
 unfold slimFN at hs
 rw [hb] at hs
 simp only at hs
 split at hs
 ·rename_i k1 k2
  simp only [Option.some.injEq,Prod.mk.injEq] at hs
  obtain ⟨rfl,rfl⟩:=hs
  exact ⟨slimN_ok k1,all2_mapO (fun _ _=>slimR_ok) k2⟩
 ·cases hs
def noDefer (fn:Func):Func:={ fn with body:=match fn.body with | some (.seq r0 (.seq _ rest))=>some (.seq r0 rest) | b=>b }
theorem slim_mt {pr:Bool} {fn:Func} {ac:ACode} {rs:List ARes} {c:Code} (hs:slimG pr P fn=some (ac,rs)) (hb:fn.body=some c):MtC P fn.ntmps c ac:=by
 unfold slimG at hs
 rw [hb] at hs
 simp only at hs
 split at hs
 ·rename_i k1 k2
  simp only [Option.some.injEq,Prod.mk.injEq] at hs
  obtain ⟨rfl,rfl⟩:=hs
  exact slimC_ok k1
 ·cases hs
def tail1 (fn:Func):Func:={ fn with body:=match fn.body with | some (.seq _ c)=>some c | b=>b }
def doorS (hpD:List AObj) (t0 t1 t2 t9:Nat) (s:St):Prop:=s.hp=hpD∧lk s.fr t0=.ref 0 0 0∧lk s.fr t1=.ref 1 0 0∧lk s.fr t2=.ref 2 0 0∧lk s.fr t9=.top
def fr3 (t0 t1 t2:Nat):List (Nat × AV):=[(t0,.ref 0 0 0),(t1,.ref 1 0 0),(t2,.ref 2 0 0)]
def doorT (hpD:List AObj) (t0 t1 t2:Nat) (cat:AV→List AObj→Prop) (rs:List ARes) (r:Ret) (x:AV) (st:St) (ids:List Nat):Prop :=
 st.hp.take 3=hpD∧(∀ i∈ids,3≤i)∧lk st.fr t0=.ref 0 0 0∧lk st.fr t1=.ref 1 0 0∧lk st.fr t2=.ref 2 0 0∧∃ hp',cat x hp' ∧ finP 0 r ⟨fr3 t0 t1 t2,hp'⟩ (aret ⟨fr3 t0 t1 t2,hp'⟩ rs)
def IdleOk (P:Program) (g:FuncId):Prop:=∀ (caps:Array Value) (w:World),caps.size=3→CallsD P g caps .returning w fun e u' w' => e=.returned (.tuple #[])∧u' = .returning∧w' = w
def CatchOk (P:Program) (g:FuncId) (hpD:List AObj) (cat:AV→List AObj→Prop):Prop:=∀ x hp',cat x hp' → ∀ (w:World) (S:Nat→Prop) (ρ:Rho) (caps:Array Value) (v:Value),HeapOk (Lent ρ hpD) w S ρ hpD w→GlobOk w S→caps.size=3 →
 (∀ i,i<3→Vl w S ρ (.ref i 0 0) (caps.getD i undef))→Vl w S ρ x v →
 CallsD P g caps (.panicking [{ v,recovered:=false }]) w fun e u' w' => e=.returned (.tuple #[])∧u' = .panicking [{ v,recovered:=true }]∧∃ S' ρ',HeapOk (Lent ρ hpD) w S' ρ' hp' w' ∧ Ext w w' S S' ρ ρ' ∧ ∀ b,S' b→S b∨Lent ρ hpD b∨w.heap.size≤b
theorem door_ok {f g : FuncId} {fn : Func} {r0 rest : Code} {id1 : Nat} {o1 o2 : Oper} {t0 t1 t2 t9 : Nat} {ts : Array TypeId} {sp : Spec} {ac0 ac : ACode} {rs : List ARes} {any : List Nat} {Φ : Phi} {ΦX : PhX} {hpD : List AObj} {cat : AV → List AObj → Prop}
  (hf : P.funcs[f]? = some fn) (hb : fn.body = some (.seq r0 (.seq (.region id1 #[o1, o2] false) rest))) (h1 : o1.op = .makeFunc (.func g) #[] #[.tmp t0, .tmp t1, .tmp t2]) (d1 : o1.dst = some t9) (g1 : o1.guard = none) (n9 : t9 < fn.ntmps)
  (h2 : o2.op = .defer { callee := .value (.tmp t9), args := #[], argTypes := ts }) (d2 : o2.dst = none) (g2 : o2.guard = none) (hin : FnIn P g) (hs : slimFN any P (noDefer fn) = some (.seq ac0 ac, rs)) (hΦ : PhiOk P Φ) (hX : PhXOk P ΦX)
  (idle : IdleOk P g) (hD : hpD.length = 3) (hcells : ∀ o ∈ hpD, cellsB o = true) (hcat : CatchOk P g hpD cat)
  (h : ∀ «as» hp r, sp «as» hp = some r → r.pre → hp = [] ∧ «as».length ≤ fn.ntmps ∧ awp3 Φ ΦX (fun _ _ _ => False) 0 ac0 (fun e s => e = .normal ∧ doorS hpD t0 t1 t2 t9 (toS s) ∧ awp3 Φ ΦX (doorT hpD t0 t1 t2 cat rs r) 3 ac (retQ2 rs 0 r) s) (ofS ⟨slots 0 «as», []⟩)) : FnOk P f sp := by
 have hbn : (noDefer fn).body = some (.seq r0 rest) := by simp only [noDefer, hb]
 obtain ⟨⟨hm0, hm⟩, hr⟩ := slimFN_ok hs hbn
 ·intro «as» hp r hsp hp' w S ρ args H ha
  obtain ⟨rfl, hlen, hw⟩ := h «as» hp r hsp hp'
  have hno : ∀ i v, ρ i v = none := fun i v => H.new i (Nat.zero_le _) v
  refine calls_of_wp_defers hf hb ?_
  have hal : args.length ≤ fn.ntmps := by rw [ha.2]; exact hlen
  have R : Rel (Lent ρ []) w S ρ fn.ntmps [] ⟨slots 0 «as», []⟩ { tmps := args.toArray ++ Array.replicate (fn.ntmps - args.toArray.size) undef, defers := [] } w := by
   refine ⟨S, ρ, H, ⟨ha.1, fun t => ?_⟩, by simp; omega, rfl, fun b hb => .inl hb, Ext.refl _ _ _⟩
   rw [lk_slots, if_pos (Nat.zero_le t), Nat.sub_zero]
   rcases Nat.lt_or_ge t «as».length with hlt | hge
   ·have := ha.3 t hlt
    have e : (args.toArray ++ Array.replicate (fn.ntmps - args.toArray.size) undef).getD t undef = args.getD t undef := by
     have hta : t < args.length := by rw [ha.2]; exact hlt
     have h1 : (args.toArray ++ Array.replicate (fn.ntmps - args.toArray.size) undef)[t]? = some args[t] := by
      rw [Array.getElem?_append_left (by simpa using hta)]; simp [hta]
     rw [Array.getD_eq_getD_getElem?, h1, List.getD_eq_getElem?_getD, List.getElem?_eq_getElem hta]
    rw [e]; exact this
   ·have : «as».getD t .top = .top := by rw [List.getD_eq_getElem?_getD, List.getElem?_eq_none hge]; rfl
    rw [this]; exact Vl.top _
  refine wp_seq ?_
  refine awp3_ok hΦ hX (fun i v L hL => by rw [hno] at hL; cases hL) ac0 _ _ hw r0 hm0 _ (fun e s a w1 hq R1 => ?_) (fun x' st ids v a w' ht R' => ht.elim) _ w (R.toS (R2.ofS _))
  obtain ⟨rfl, ⟨e1, e2, e3, e4, e5⟩, hw2⟩ := hq
  obtain ⟨S1, ρ1, R1⟩ := R1
  refine wp_seq (wp_region_list ?_)
  have w1' : Region.wanted o1 (yielded #[o1, o2] a.tmps) = true := by simp [Region.wanted, g1]
  simp only [wpList, if_pos w1']
  refine .inl ?_
  unfold Oper.wp
  rw [run_mkfn3 h1, Oper.upon_value, d1]
  generalize hcaps : #[a.eval (.tmp t0), a.eval (.tmp t1), a.eval (.tmp t2)] = caps
  have w2' : Region.wanted o2 (yielded #[o1, o2] (a.put (some t9) (.func (.func g) #[] caps)).tmps) = true := by simp [Region.wanted, g2]
  simp only [wpList, if_pos w2']
  refine .inl ?_
  have hev : (a.put (some t9) (.func (.func g) #[] caps)).eval (.tmp t9) = .func (.func g) #[] caps := by
   have : t9 < a.tmps.size := by rw [R1.size]; exact n9
   simp [Act.eval, Act.put, this]
  rw [run_dfr h2 hev]
  show (rest.wp P _ _ w1)
  rw [d2]
  show rest.wp P _ { tmps := a.tmps.setIfInBounds t9 (.func (.func g) #[] caps), defers := { target := .fn (.func g) caps, args := #[] } :: a.defers } w1
  rw [R1.dfr]
  have hsize : (toS s).hp.length = 3 := by rw [e1]; exact hD
  have R2' : RelS (Lent ρ1 (toS s).hp) w1 S1 ρ1 fn.ntmps [{ target := .fn (.func g) caps, args := #[] }] S1 ρ1 (toS s) { tmps := a.tmps.setIfInBounds t9 (.func (.func g) #[] caps), defers := [{ target := .fn (.func g) caps, args := #[] }] } w1 := by
   refine ⟨R1.heap.base, ⟨R1.fr.1, fun t => ?_⟩, by rw [Array.size_setIfInBounds]; exact R1.size, rfl, fun _ hb => .inl hb, Ext.refl _ _ _⟩
   by_cases e : t9 = t
   ·subst e; rw [e5]; exact Vl.top _
   ·have := R1.fr.2 t
    have e' : (a.tmps.setIfInBounds t9 (.func (.func g) #[] caps)).getD t undef = a.tmps.getD t undef := by simp [Array.getElem?_setIfInBounds_ne e]
    rw [e']; exact this
  have hcv : ∀ i, i < 3 → Vl w1 S1 ρ1 (.ref i 0 0) (caps.getD i undef) := by
   intro i hi
   subst hcaps
   match i, hi with
   | 0, _ => have := R1.fr.2 t0; rw [e2] at this; exact this
   | 1, _ => have := R1.fr.2 t1; rw [e3] at this; exact this
   | 2, _ => have := R1.fr.2 t2; rw [e4] at this; exact this
  have hcz : caps.size = 3 := by subst hcaps; rfl
  refine awp3_ok hΦ hX (fun i v L hL => ?_) ac _ _ hw2 rest hm _ (fun e s' a' w' hq R' => ?_) (fun x' st ids v a' w' ht R' => ?_) _ w1 ⟨S1, ρ1, R2'⟩
  ·rcases Nat.lt_or_ge i 3 with h1 | h1
   ·exact h1
   ·rw [R1.heap.new i (by omega)] at hL; cases hL
  ·-- a return
   obtain ⟨S', ρ', R'⟩ := R'
   have key : finP 0 r (toS s') (aret (toS s') rs) → Leaves P fn a'.tmps (fun e w' => ∃ v S' ρ', e = .returned v ∧ Vl w' S' ρ' r.v v ∧ HeapOk (Lent ρ []) w S' ρ' r.hp w' ∧ Ext w w' S S' ρ ρ' ∧ (∀ b, S' b → S b ∨ w.heap.size ≤ b ∨ Lent ρ [] b)) a'.defers .returning w' := by
    intro hfin
    rw [R'.dfr]
    refine leaves_cons (by simp) (run_leave hin) ((idle caps w' hcz).mono ?_)
    rintro e u' w'' ⟨rfl, rfl, rfl⟩
    obtain ⟨v, hv, S2, ρ2, q1, q2, q3, q4⟩ := fin_ok (hp0 := []) hr hfin (fun id _ v => hno id v) (R1.heap.unbase R'.heap) R'.fr (sin_un R1.heap R1.sin R'.sin) (R1.ext.trans R'.ext)
    exact ⟨v, hv, v, S2, ρ2, rfl, q1, q2, q3, q4⟩
   cases e with
   | normal => exact key hq
   | ret => exact key hq
   | _ => exact hq.elim
  ·-- a throw
   obtain ⟨t1', t2', l0, l1, l2, hp3, hc, hfin⟩ := ht
   have hds := R'.2.1
   have hvx := R'.1
   have H1 : HeapOk (Lent ρ []) w S1 ρ1 hpD w1 := by have := R1.heap; rw [e1] at this; exact this
   rw [e1] at R'
   obtain ⟨ρ3, H3, E3, V3⟩ := thrown_heap H1 R' (by rw [hD]; exact t1') (by rw [hD]; exact t2') hcells
   show Leaves P fn a'.tmps _ a'.defers (.panicking [{ v, recovered := false }]) w'
   rw [hds]
   have hgl : GlobOk w' S1 := R1.fr.1.ext E3.mem E3.st
   refine leaves_cons (by simp) (run_leave hin) ((hcat x' hp3 hc w' S1 ρ3 caps v H3.base hgl hcz (fun i hi => (hcv i hi).ext E3) (hvx w' S1 ρ3)).mono ?_)
   rintro e u' w'' ⟨rfl, rfl, S4, ρ4, H4, E4, sin4⟩
   have HH : HeapOk (Lent ρ []) w S4 ρ4 hp3 w'' := H1.unbase (H3.unbase H4)
   have hs1 : ∀ b, S4 b → S b ∨ Lent ρ [] b ∨ w.heap.size ≤ b := sin_un H1 R1.sin (sin_un H3 (fun b hb => .inl hb) sin4)
   have hfr : FrOk w'' S4 ρ4 (fr3 t0 t1 t2) a'.tmps := by
    refine ⟨hgl.ext E4.mem E4.st, fun t => ?_⟩
    unfold fr3
    simp only [lk]
    by_cases q0 : t0 = t
    ·rw [if_pos q0, ← q0]; exact (V3 t0 0 (by omega) l0).ext E4
    ·rw [if_neg q0]
     by_cases q1 : t1 = t
     ·rw [if_pos q1, ← q1]; exact (V3 t1 1 (by omega) l1).ext E4
     ·rw [if_neg q1]
      by_cases q2 : t2 = t
      ·rw [if_pos q2, ← q2]; exact (V3 t2 2 (by omega) l2).ext E4
      ·rw [if_neg q2]; exact Vl.top _
   obtain ⟨v', hv', S2, ρ2, q1, q2, q3, q4⟩ := fin_ok (hp0 := []) hr hfin (fun id _ v => hno id v) HH hfr hs1 ((R1.ext.trans E3).trans E4)
   exact ⟨v', hv', v', S2, ρ2, rfl, q1, q2, q3, q4⟩
end
section
variable {P : Program} {Φ : Phi} {ΦX : PhX} {T : AV → St → List Nat → Prop} {deps : List Nat} {l : List AOper} {σ : Nat → S2} {K : S2 → Prop}
theorem next3_mono {K K' : Nat→S2→Prop} (h:∀ dn s,K dn s→K' dn s):∀ (l' : List AOper) (deps' : List Nat) (i dn:Nat) (s:S2),next3 Φ ΦX T K s dn i deps' l' → next3 Φ ΦX T K' s dn i deps' l' := by
 intro l'
 induction l' with
 | nil=>intro deps' i dn s hh; cases deps' <;> exact hh
 | cons o l' ihl =>
  intro deps' i dn s hh
  cases deps' with
  | nil=>exact hh
  | cons d deps' =>
   refine ⟨?_,ihl _ _ _ _ hh.2⟩
   have h1:=hh.1
   split
   ·rename_i e; rw [if_pos e] at h1
    obtain ⟨d',op,g⟩:=o
    cases g with
    | none =>
     simp only [step3] at h1 ⊢
     split
     ·rename_i e; rw [if_pos e] at h1
      split
      ·rename_i e; rw [if_pos e] at h1; exact h1
      ·rename_i e; rw [if_neg e] at h1; exact aq2_mono (fun s' hs=>h _ _ hs) h1
     ·rename_i e; rw [if_neg e] at h1; exact aq2_mono (fun s' hs=>h _ _ hs) h1
    | some g=>exact h1
   ·trivial
def memB:Nat→List Nat→Bool
 | _,[]=>false
 | n,m :: r=>if n=m then true else memB n r
theorem memB_ok {n:Nat}:∀ {L:List Nat},memB n L=true→n∈L
 | m :: r,h=>by
  simp only [memB] at h
  split at h
  ·rename_i e; subst e; exact List.mem_cons_self ..
  ·exact List.mem_cons_of_mem _ (memB_ok h)
def lev3 (Φ:Phi) (ΦX:PhX) (T:AV→St→List Nat→Prop) (deps:List Nat) (l:List AOper) (σ:Nat→S2) (L' : List Nat):List Nat→Prop
 | []=>True
 | dn :: r=>next3 Φ ΦX T (fun dn' s' => memB dn' L' = true∧s' = σ dn') (σ dn) dn 0 deps l∧lev3 Φ ΦX T deps l σ L' r
def lst3 (σ:Nat→S2) (K:S2→Prop):List Nat→Prop
 | []=>True
 | dn :: r=>K (σ dn)∧lst3 σ K r
def tab3 (Φ:Phi) (ΦX:PhX) (T:AV→St→List Nat→Prop) (deps:List Nat) (l:List AOper) (σ:Nat→S2) (K:S2→Prop):List (List Nat)→Prop
 | []=>True
 | [L]=>lst3 σ K L
 | L :: L' :: r=>lev3 Φ ΦX T deps l σ L' L∧tab3 Φ ΦX T deps l σ K (L' :: r)
theorem lev3_at {L' : List Nat}:∀ {L:List Nat},lev3 Φ ΦX T deps l σ L' L→∀ dn∈L,next3 Φ ΦX T (fun dn' s' => memB dn' L' = true∧s' = σ dn') (σ dn) dn 0 deps l
 | [],_,dn,h=>by cases h
 | m :: r,hh,dn,h=>by
  rcases List.mem_cons.1 h with rfl | h
  ·exact hh.1
  ·exact lev3_at hh.2 dn h
theorem lst3_at:∀ {L:List Nat},lst3 σ K L→∀ dn∈L,K (σ dn)
 | [],_,dn,h=>by cases h
 | m :: r,hh,dn,h=>by
  rcases List.mem_cons.1 h with rfl | h
  ·exact hh.1
  ·exact lst3_at hh.2 dn h
theorem all3_tab:∀ {r:List (List Nat)} {L:List Nat},tab3 Φ ΦX T deps l σ K (L :: r)→∀ dn∈L,all3 Φ ΦX T deps l K r.length dn (σ dn)
 | [],L,h,dn,hd=>lst3_at h dn hd
 | L' :: r,L,h,dn,hd=>by
  refine next3_mono (fun dn' s' hh=>?_) l deps 0 dn _ (lev3_at h.1 dn hd)
  obtain ⟨h1,rfl⟩:=hh
  exact all3_tab h.2 dn' (memB_ok h1)
def frT:List (Option Nat × AV)→Nat→Nat→List (List AV)→List (List AV)
 | [],_,_,f=>f
 | (none,_) :: r,i,dn,f=>frT r (i+1) dn f
 | (some d,v) :: r,i,dn,f=>frT r (i+1) dn (if ((dn &&& 2 ^ i) == 0)=true then f else putF f d v)
def sgT (f:List (List AV)) (vs:List (Option Nat × AV)) (H:Nat→List AObj) (dn:Nat):S2:=⟨frT vs 0 dn f,H dn⟩
end
end Go.Proofs.YtakolikdebfkeaaDoor
