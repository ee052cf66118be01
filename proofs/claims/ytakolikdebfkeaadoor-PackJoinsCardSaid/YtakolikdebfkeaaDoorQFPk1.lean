import Derived.Test.YtakolikdebfkeaaDoorQPkCode
import Derived.Test.YtakolikdebfkeaaDoorChecked
import Derived.Test.YtakolikdebfkeaaDoorQAMS
open Nat (reduceDiv reduceMod reduceSub reduceAdd reduceLeDiff reduceEqDiff)
set_option linter.all false
namespace Go.Proofs.YtakolikdebfkeaaDoor
open Go.RowKit
def itV (x:Int × List UInt8):AV:=.agg [(1,.int .i64 x.1),(1,.sl 1 (Bs x.2))]
def unIt:AV→Int × List UInt8
 | .agg [(1,.int .i64 k),(1,.sl 1 bs)]=>(k,unB bs)
 | _=>(0,[])
theorem unIt_itV (x:Int × List UInt8):unIt (itV x)=x:=by simp [unIt,itV,unB_Bs]
def unIts (l:List AV):List (Int × List UInt8):=l.map unIt
theorem unIts_it (l:List (Int × List UInt8)):unIts (l.map itV)=l:=by
 unfold unIts
 rw [List.map_map]
 conv=>rhs; rw [← List.map_id l]
 apply List.map_congr_left
 intro x _
 exact unIt_itV x
theorem its_get (l:List (Int × List UInt8)) {i:Nat} (h:i<l.length) (d:AV):(l.map itV).getD i d=itV (l.getD i (0,[])):=by
 simp [List.getD_eq_getElem?_getD,h]
def fewL (l:List (Int × List UInt8)):List (Int × List UInt8):=(l.take 12).map fun x=>(x.1,x.2.take 300)
theorem takeBs3 (l:List UInt8) (n:Nat):(Bs l).take n=Bs (l.take n):=by unfold Bs; rw [List.map_take]
theorem few_take (l:List (Int × List UInt8)) {i:Nat} (h:i≤12):fewL (l.take i)=(l.take i).map fun x=>(x.1,x.2.take 300):=by
 unfold fewL
 rw [List.take_take,Nat.min_eq_right h]
theorem few_step (l:List (Int × List UInt8)) {i:Nat} (h:i<12) (hl:i<l.length):fewL (l.take (i+1))=fewL (l.take i) ++ [((l.getD i (0,[])).1,(l.getD i (0,[])).2.take 300)]:=by
 rw [few_take l (by omega),few_take l (by omega),List.take_succ,List.getElem?_eq_getElem hl,List.map_append]
 simp [List.getD_eq_getElem?_getD,hl]
theorem few_len (l:List (Int × List UInt8)):(fewL l).length≤12:=by unfold fewL; rw [List.length_map,List.length_take]; omega
theorem min_take (b:List UInt8):List.take (min ((b.length:Nat):Int) 300).toNat (Bs b)=Bs (b.take 300):=by
 rw [takeBs3]
 rcases Nat.le_total b.length 300 with h | h
 ·rw [show (min ((b.length:Nat):Int) 300).toNat=b.length by omega,List.take_of_length_le (Nat.le_refl _),List.take_of_length_le h]
 ·rw [show (min ((b.length:Nat):Int) 300).toNat=300 by omega]
def few12S:Spec:=fun xs hp=>match xs,hp with
 | [.sl 2 ts],[]=>some ⟨.own 0 (fewL (unIts ts)).length,[.row 43 2 (fewL (unIts ts)).length ((fewL (unIts ts)).map itV)],ts=(unIts ts).map itV⟩
 | _,_=>none
set_option maxRecDepth 8000 in
theorem few12_ok:FnOk Tryd.prog 6 few12S:=by
 refine fn_slim2 Tryd.func6 s_few12 (Φ:=phiL []) phi_nil ?_
 intro xs hp r hs hp'
 unfold few12S at hs
 split at hs
 ·rename_i ts
  injection hs with hs; subst hs
  have h1:ts=(unIts ts).map itV:=hp'
  generalize unIts ts=l at *
  subst h1
  refine ⟨len_le (by kernel_rfl),?_⟩
  simp only [c_few12,go_sem,reduceDiv,reduceMod,↓reduceIte,reduceEqDiff,Nat.reduceBEq,reduceSub,Nat.reduceLT,reduceAdd,reduceLeDiff,reduceCtorEq,Int.reduceEq,Int.reduceNe,Int.reduceLT,Int.reduceLE,Int.reduceToNat]
  refine loop2P [(3,43,2)] [0,3,4] [0] (fun i:Nat=>⟨[(0,.sl 2 (l.map itV)),(3,.own 0 (fewL (l.take i)).length),(4,.int .i64 (i:Int))],[.row 43 2 (fewL (l.take i)).length ((fewL (l.take i)).map itV)]⟩) (fun i=>i≤l.length∧i≤12) (fun i=>12 - i) 0 (by rfl) ⟨Nat.zero_le _,by decide⟩ ⟨rfl,by rfl⟩ (fun i hi R hR=>?_)
  obtain ⟨i1,i2⟩:=hi
  by_cases hil:i<l.length
  ·have c1:decide ((i:Int)<(l.length:Int))=true:=decide_eq_true (by omega)
   by_cases h12:i<12
   ·have c2:decide ((i:Int)<12)=true:=decide_eq_true (by omega)
    have hg:=its_get l hil (.agg [(1,.int .i64 0),(1,.con (.slice none 0 0))])
    have hst:=few_step l h12 hil
    have hle:=few_len (l.take (i+1))
    have hrow:(fewL (l.take i)).map itV ++ [AV.agg [(1,.int .i64 (l.getD i (0,[])).1),(1,.sl 1 (Bs ((l.getD i (0,[])).2.take 300)))]]=(fewL (l.take (i+1))).map itV:=by rw [hst,List.map_append]; rfl
    have hv:(fewL (l.take i)).length+1=(fewL (l.take (i+1))).length:=by rw [hst,List.length_append]; rfl
    simp only [b_few12_0,c1,c2,hg,min_take,itV,List.length_map,Int.toNat_natCast,Bs_len,go_sem,reduceDiv,reduceMod,↓reduceIte,reduceEqDiff,Nat.reduceBEq,reduceSub,Nat.reduceLT,reduceAdd,reduceLeDiff,reduceCtorEq,Int.reduceEq,Int.reduceNe,Int.reduceLT,Int.reduceLE,Int.reduceToNat]
    simp only [hrow,hv,List.length_map]
    exact ⟨⟨by omega,by omega⟩,⟨by omega,by omega⟩,⟨by omega,by omega⟩,⟨by omega,by omega⟩,⟨by simp only [lenOk]; omega,by simp only [bytesOk]; omega⟩,by (first | omega | (simp only [lenOk,bytesOk,inI,IntKind.bits,List.length_append,Bs_len,List.length_cons,List.length_nil,List.length_map,List.length_take,List.length_drop,List.length_replicate]; omega)),hR _ (i+1) ⟨by omega,by omega⟩ (by omega) rfl⟩
   ·have c2:decide ((i:Int)<12)=false:=decide_eq_false (by omega)
    obtain rfl:i=12:=by omega
    have hf:fewL (l.take 12)=fewL l:=by unfold fewL; rw [List.take_take]; rfl
    simp only [b_few12_0,t_few12_0,r_few12,c1,c2,hf,List.length_map,go_sem,reduceDiv,reduceMod,↓reduceIte,reduceEqDiff,Nat.reduceBEq,reduceSub,Nat.reduceLT,reduceAdd,reduceLeDiff,reduceCtorEq,Int.reduceEq,Int.reduceNe,Int.reduceLT,Int.reduceLE,Int.reduceToNat]
  ·have c1:decide ((i:Int)<(l.length:Int))=false:=decide_eq_false (by omega)
   obtain rfl:i=l.length:=by omega
   rw [List.take_length]
   simp only [b_few12_0,t_few12_0,r_few12,c1,List.length_map,go_sem,reduceDiv,reduceMod,↓reduceIte,reduceEqDiff,Nat.reduceBEq,reduceSub,Nat.reduceLT,reduceAdd,reduceLeDiff,reduceCtorEq,Int.reduceEq,Int.reduceNe,Int.reduceLT,Int.reduceLE,Int.reduceToNat]
 ·cases hs
def allW (l:List (Int × List UInt8)):Bool:=l.all fun x=>!decide (wordL x.1=[])
def kinds12S:Spec:=fun xs hp=>match xs,hp with
 | [.sl 2 ts],[]=>some ⟨.bool (allW (unIts ts)),[],ts=(unIts ts).map itV∧ts.length≤1000⟩
 | _,_=>none
set_option maxRecDepth 8000 in
theorem kinds12_ok:FnOk Tryd.prog 7 kinds12S:=by
 refine fn_slim2 Tryd.func7 s_kinds12 (Φ:=phiL [(12,[],wordS)]) (phi_cons rword_ok (by kernel_rfl) phi_nil) ?_
 intro xs hp r hs hp'
 unfold kinds12S at hs
 split at hs
 ·rename_i ts
  injection hs with hs; subst hs
  obtain ⟨h1,h2⟩:=hp'
  generalize unIts ts=l at *
  subst h1
  rw [List.length_map] at h2
  refine ⟨len_le (by kernel_rfl),?_⟩
  simp only [c_kinds12,go_sem,reduceDiv,reduceMod,↓reduceIte,reduceEqDiff,Nat.reduceBEq,reduceSub,Nat.reduceLT,reduceAdd,reduceLeDiff,reduceCtorEq,Int.reduceEq,Int.reduceNe,Int.reduceLT,Int.reduceLE,Int.reduceToNat]
  refine loop2P [] [0,3] [] (fun i:Nat=>⟨[(0,.sl 2 (l.map itV)),(3,.int .i64 (i:Int))],[]⟩) (fun i=>i≤l.length∧allW l=allW (l.drop i)) (fun i=>l.length - i) 0 (by rfl) ⟨Nat.zero_le _,rfl⟩ ⟨rfl,by rfl⟩ (fun i hi R hR=>?_)
  obtain ⟨i1,i2⟩:=hi
  by_cases hil:i<l.length
  ·have c1:decide ((i:Int)<(l.length:Int))=true:=decide_eq_true (by omega)
   have hg:=its_get l hil (.agg [(1,.int .i64 0),(1,.con (.slice none 0 0))])
   have hd:allW (l.drop i)=(!decide (wordL (l.getD i (0,[])).1=[]) && allW (l.drop (i+1))):=by
    rw [List.drop_eq_getElem_cons hil]
    unfold allW
    rw [List.all_cons]
    simp [List.getD_eq_getElem?_getD,hil]
   by_cases hw:wordL (l.getD i (0,[])).1=[]
   ·have c2:decide (wordL (l.getD i (0,[])).1=[])=true:=decide_eq_true hw
    have hA:allW l=false:=by rw [i2,hd,c2]; rfl
    simp only [b_kinds12_0,r_kinds12,wordS,c1,c2,hg,hA,itV,List.length_map,Int.toNat_natCast,go_sem,reduceDiv,reduceMod,↓reduceIte,reduceEqDiff,Nat.reduceBEq,reduceSub,Nat.reduceLT,reduceAdd,reduceLeDiff,reduceCtorEq,Int.reduceEq,Int.reduceNe,Int.reduceLT,Int.reduceLE,Int.reduceToNat]
    exact ⟨by omega,by omega⟩
   ·have c2:decide (wordL (l.getD i (0,[])).1=[])=false:=decide_eq_false hw
    have hA:allW l=allW (l.drop (i+1)):=by rw [i2,hd,c2]; rfl
    simp only [b_kinds12_0,r_kinds12,wordS,c1,c2,hg,itV,List.length_map,Int.toNat_natCast,go_sem,reduceDiv,reduceMod,↓reduceIte,reduceEqDiff,Nat.reduceBEq,reduceSub,Nat.reduceLT,reduceAdd,reduceLeDiff,reduceCtorEq,Int.reduceEq,Int.reduceNe,Int.reduceLT,Int.reduceLE,Int.reduceToNat]
    exact ⟨⟨by omega,by omega⟩,by (first | omega | (simp only [lenOk,bytesOk,inI,IntKind.bits,List.length_append,Bs_len,List.length_cons,List.length_nil,List.length_map,List.length_take,List.length_drop,List.length_replicate]; omega)),hR _ (i+1) ⟨by omega,hA⟩ (by omega) rfl⟩
  ·have c1:decide ((i:Int)<(l.length:Int))=false:=decide_eq_false (by omega)
   obtain rfl:i=l.length:=by omega
   have hA:allW l=true:=by rw [i2,List.drop_length]; rfl
   simp only [b_kinds12_0,t_kinds12_0,r_kinds12,c1,hA,List.length_map,go_sem,reduceDiv,reduceMod,↓reduceIte,reduceEqDiff,Nat.reduceBEq,reduceSub,Nat.reduceLT,reduceAdd,reduceLeDiff,reduceCtorEq,Int.reduceEq,Int.reduceNe,Int.reduceLT,Int.reduceLE,Int.reduceToNat]
 ·cases hs
def longB (x:Int × List UInt8):Bool:=decide (16777216<x.2.length)
def pright1S:Spec:=fun xs hp=>match xs,hp with
 | [.agg [(1,.int .i64 k),(1,.sl 1 bs)]],[]=>some ⟨.bool (longB (k,unB bs)),[],bs=Bs (unB bs)⟩
 | _,_=>none
set_option maxRecDepth 8000 in
theorem pright1_ok:FnOk Tryd.prog 42 pright1S:=by
 refine fn_slim2 Tryd.func42 s_pright1 (Φ:=phiL []) phi_nil ?_
 intro xs hp r hs hp'
 unfold pright1S at hs
 split at hs
 ·rename_i k bs
  injection hs with hs; subst hs
  have h1:bs=Bs (unB bs):=hp'
  generalize unB bs=b at *
  subst h1
  refine ⟨len_le (by kernel_rfl),?_⟩
  have e:longB (k,b)=decide (16777216<(b.length:Int)):=by unfold longB; exact decide_eq_decide.2 (by simp only; omega)
  simp only [c_pright1,r_pright1,e,Bs_len,go_sem,reduceDiv,reduceMod,↓reduceIte,reduceEqDiff,Nat.reduceBEq,reduceSub,Nat.reduceLT,reduceAdd,reduceLeDiff,reduceCtorEq,Int.reduceEq,Int.reduceNe,Int.reduceLT,Int.reduceLE,Int.reduceToNat]
 ·cases hs
def rightFn:AV:=.fn (.func 42) [] []
def sifS:Spec:=fun xs hp=>match xs,hp with
 | [.sl 1 [],.fn (.func 42) [] []],[]=>some ⟨.int .i64 (-1),[],True⟩
 | [.sl 2 ts,.fn (.func 42) [] []],[]=>if (unIts ts).any longB=true then none else some ⟨.int .i64 (-1),[],ts=(unIts ts).map itV∧ts.length≤100000⟩
 | _,_=>none
set_option maxRecDepth 8000 in
theorem sif_ok:FnOk Tryd.prog 60 sifS:=by
 refine fn_slim2 Tryd.func60 s_sif (Φ:=phiL [(42,[],pright1S)]) (phi_cons pright1_ok (by kernel_rfl) phi_nil) ?_
 intro xs hp r hs hp'
 unfold sifS at hs
 split at hs
 ·injection hs with hs; subst hs
  refine ⟨len_le (by kernel_rfl),?_⟩
  simp only [c_sif,go_sem,reduceDiv,reduceMod,↓reduceIte,reduceEqDiff,Nat.reduceBEq,reduceSub,Nat.reduceLT,reduceAdd,reduceLeDiff,reduceCtorEq,Int.reduceEq,Int.reduceNe,Int.reduceLT,Int.reduceLE,Int.reduceToNat]
  have c0:decide ((0:Int)<0)=false:=rfl
  refine loop2P [] [7,8] [] (fun _:Unit=>⟨[(7,.int .i64 0),(8,.int .i64 0)],[]⟩) (fun _=>True) (fun _=>0) () (by rfl) trivial ⟨rfl,by rfl⟩ (fun _ _ R hR=>?_)
  simp only [b_sif_0,t_sif_0,r_sif,c0,go_sem,reduceDiv,reduceMod,↓reduceIte,reduceEqDiff,Nat.reduceBEq,reduceSub,Nat.reduceLT,reduceAdd,reduceLeDiff,reduceCtorEq,Int.reduceEq,Int.reduceNe,Int.reduceLT,Int.reduceLE,Int.reduceToNat]
 ·rename_i ts
  split at hs
  ·cases hs
  ·rename_i hany
   injection hs with hs; subst hs
   obtain ⟨h1,h2⟩:=hp'
   generalize unIts ts=l at *
   subst h1
   rw [List.length_map] at h2
   refine ⟨len_le (by kernel_rfl),?_⟩
   simp only [c_sif,List.length_map,go_sem,reduceDiv,reduceMod,↓reduceIte,reduceEqDiff,Nat.reduceBEq,reduceSub,Nat.reduceLT,reduceAdd,reduceLeDiff,reduceCtorEq,Int.reduceEq,Int.reduceNe,Int.reduceLT,Int.reduceLE,Int.reduceToNat]
   refine loop2P [] [0,1,7,8] [] (fun i:Nat=>⟨[(0,.sl 2 (l.map itV)),(1,rightFn),(7,.int .i64 (l.length:Int)),(8,.int .i64 (i:Int))],[]⟩) (fun i=>i≤l.length) (fun i=>l.length - i) 0 (by rfl) (Nat.zero_le _) ⟨rfl,by rfl⟩ (fun i hi R hR=>?_)
   by_cases hil:i<l.length
   ·have c1:decide ((i:Int)<(l.length:Int))=true:=decide_eq_true (by omega)
    have hg:=its_get l hil (.agg [(1,.int .i64 0),(1,.con (.slice none 0 0))])
    have hn:longB (l.getD i (0,[]))=false:=by
     cases hb:longB (l.getD i (0,[])) with
     | false=>rfl
     | true=>exact absurd (List.any_eq_true.2 ⟨_,by rw [List.getD_eq_getElem?_getD,List.getElem?_eq_getElem hil]; exact List.getElem_mem hil,hb⟩) hany
    have hn2:longB ((l.getD i (0,[])).1,(l.getD i (0,[])).2)=false:=hn
    simp only [b_sif_0,rightFn,pright1S,c1,hg,hn2,itV,unB_Bs,List.length_map,Int.toNat_natCast,go_sem,reduceDiv,reduceMod,↓reduceIte,reduceEqDiff,Nat.reduceBEq,reduceSub,Nat.reduceLT,reduceAdd,reduceLeDiff,reduceCtorEq,Int.reduceEq,Int.reduceNe,Int.reduceLT,Int.reduceLE,Int.reduceToNat]
    exact ⟨⟨by omega,by omega⟩,by (first | omega | (simp only [lenOk,bytesOk,inI,IntKind.bits,List.length_append,Bs_len,List.length_cons,List.length_nil,List.length_map,List.length_take,List.length_drop,List.length_replicate]; omega)),hR _ (i+1) (by omega) (by omega) rfl⟩
   ·have c1:decide ((i:Int)<(l.length:Int))=false:=decide_eq_false (by omega)
    simp only [b_sif_0,t_sif_0,r_sif,c1,go_sem,reduceDiv,reduceMod,↓reduceIte,reduceEqDiff,Nat.reduceBEq,reduceSub,Nat.reduceLT,reduceAdd,reduceLeDiff,reduceCtorEq,Int.reduceEq,Int.reduceNe,Int.reduceLT,Int.reduceLE,Int.reduceToNat]
 ·cases hs
def scfS:Spec:=fun xs hp=>match xs,hp with
 | [.sl 1 [],.fn (.func 42) [] []],[]=>some ⟨.bool false,[],True⟩
 | [.sl 2 ts,.fn (.func 42) [] []],[]=>if (unIts ts).any longB=true then none else some ⟨.bool false,[],ts=(unIts ts).map itV∧ts.length≤100000⟩
 | _,_=>none
set_option maxRecDepth 8000 in
theorem scf_ok:FnOk Tryd.prog 41 scfS:=by
 refine fn_slim2 Tryd.func41 s_scf (Φ:=phiL [(60,[],sifS)]) (phi_cons sif_ok (by kernel_rfl) phi_nil) ?_
 intro xs hp r hs hp'
 unfold scfS at hs
 split at hs
 ·injection hs with hs; subst hs
  refine ⟨len_le (by kernel_rfl),?_⟩
  simp only [c_scf,r_scf,sifS,go_sem,reduceDiv,reduceMod,↓reduceIte,reduceEqDiff,Nat.reduceBEq,reduceSub,Nat.reduceLT,reduceAdd,reduceLeDiff,reduceCtorEq,Int.reduceEq,Int.reduceNe,Int.reduceLT,Int.reduceLE,Int.reduceToNat]
 ·rename_i ts
  split at hs
  ·cases hs
  ·rename_i hany
   injection hs with hs; subst hs
   have hP:=hp'
   refine ⟨len_le (by kernel_rfl),?_⟩
   have hany:=Bool.eq_false_iff.2 hany
   have hf:¬ (false=true):=by decide
   simp only [c_scf,r_scf,sifS,hany,hf,if_false,go_sem,reduceDiv,reduceMod,↓reduceIte,reduceEqDiff,Nat.reduceBEq,reduceSub,Nat.reduceLT,reduceAdd,reduceLeDiff,reduceCtorEq,Int.reduceEq,Int.reduceNe,Int.reduceLT,Int.reduceLE,Int.reduceToNat]
   exact hP
 ·cases hs
def prightS:Spec:=fun xs hp=>match xs,hp with
 | [.sl 1 []],[]=>some ⟨.int .i64 0,[],True⟩
 | [.sl 2 ts],[]=>if allW (unIts ts)=false∨(unIts ts).any longB=true then none else some ⟨.int .i64 0,[],ts=(unIts ts).map itV∧ts.length≤10000⟩
 | _,_=>none
set_option maxRecDepth 8000 in
theorem pright_ok:FnOk Tryd.prog 19 prightS:=by
 refine fn_slim2 Tryd.func19 s_pright (Φ:=phiL [(25,[],wordS),(41,[],scfS)]) (phi_cons oword_ok (by kernel_rfl) (phi_cons scf_ok (by kernel_rfl) phi_nil)) ?_
 intro xs hp r hs hp'
 unfold prightS at hs
 split at hs
 ·injection hs with hs; subst hs
  refine ⟨len_le (by kernel_rfl),?_⟩
  simp only [c_pright,go_sem,reduceDiv,reduceMod,↓reduceIte,reduceEqDiff,Nat.reduceBEq,reduceSub,Nat.reduceLT,reduceAdd,reduceLeDiff,reduceCtorEq,Int.reduceEq,Int.reduceNe,Int.reduceLT,Int.reduceLE,Int.reduceToNat]
  have c0:decide ((0:Int)<0)=false:=rfl
  refine loop2P [] [0,5,6,7] [] (fun _:Unit=>⟨[(0,.sl 1 []),(5,.sl 1 []),(6,.int .i64 0),(7,.int .i64 0)],[]⟩) (fun _=>True) (fun _=>0) () (by rfl) trivial ⟨rfl,by rfl⟩ (fun _ _ R hR=>?_)
  have c3:decide ((10000:Int)<0)=false:=rfl
  simp only [b_pright_0,t_pright_0,r_pright,scfS,c0,c3,go_sem,reduceDiv,reduceMod,↓reduceIte,reduceEqDiff,Nat.reduceBEq,reduceSub,Nat.reduceLT,reduceAdd,reduceLeDiff,reduceCtorEq,Int.reduceEq,Int.reduceNe,Int.reduceLT,Int.reduceLE,Int.reduceToNat]
 ·rename_i ts
  split at hs
  ·cases hs
  ·rename_i hno
   injection hs with hs; subst hs
   obtain ⟨h1,h2⟩:=hp'
   have hW:allW (unIts ts)=true:=by
    cases h:allW (unIts ts) with
    | true=>rfl
    | false=>exact absurd (.inl h) hno
   have hA:(unIts ts).any longB=false:=Bool.eq_false_iff.2 fun h=>hno (.inr h)
   generalize unIts ts=l at *
   subst h1
   rw [List.length_map] at h2
   refine ⟨len_le (by kernel_rfl),?_⟩
   have hf:¬ (false=true):=by decide
   simp only [c_pright,List.length_map,go_sem,reduceDiv,reduceMod,↓reduceIte,reduceEqDiff,Nat.reduceBEq,reduceSub,Nat.reduceLT,reduceAdd,reduceLeDiff,reduceCtorEq,Int.reduceEq,Int.reduceNe,Int.reduceLT,Int.reduceLE,Int.reduceToNat]
   refine loop2P [] [0,5,6,7] [] (fun i:Nat=>⟨[(0,.sl 2 (l.map itV)),(5,.sl 2 (l.map itV)),(6,.int .i64 (l.length:Int)),(7,.int .i64 (i:Int))],[]⟩) (fun i=>i≤l.length) (fun i=>l.length - i) 0 (by rfl) (Nat.zero_le _) ⟨rfl,by rfl⟩ (fun i hi R hR=>?_)
   by_cases hil:i<l.length
   ·have c1:decide ((i:Int)<(l.length:Int))=true:=decide_eq_true (by omega)
    have hg:=its_get l hil (.agg [(1,.int .i64 0),(1,.con (.slice none 0 0))])
    have c2:decide (wordL (l.getD i (0,[])).1=[])=false:=by
     have:=List.all_eq_true.1 hW (l.getD i (0,[])) (by rw [List.getD_eq_getElem?_getD,List.getElem?_eq_getElem hil]; exact List.getElem_mem hil)
     simpa using this
    simp only [b_pright_0,wordS,c1,c2,hg,itV,List.length_map,Int.toNat_natCast,go_sem,reduceDiv,reduceMod,↓reduceIte,reduceEqDiff,Nat.reduceBEq,reduceSub,Nat.reduceLT,reduceAdd,reduceLeDiff,reduceCtorEq,Int.reduceEq,Int.reduceNe,Int.reduceLT,Int.reduceLE,Int.reduceToNat]
    exact ⟨⟨by omega,by omega⟩,by (first | omega | (simp only [lenOk,bytesOk,inI,IntKind.bits,List.length_append,Bs_len,List.length_cons,List.length_nil,List.length_map,List.length_take,List.length_drop,List.length_replicate]; omega)),hR _ (i+1) (by omega) (by omega) rfl⟩
   ·have c1:decide ((i:Int)<(l.length:Int))=false:=decide_eq_false (by omega)
    have c3:decide (10000<(l.length:Int))=false:=decide_eq_false (by omega)
    have hu:=unIts_it l
    simp only [b_pright_0,t_pright_0,r_pright,scfS,hu,hA,hf,if_false,c1,c3,List.length_map,go_sem,reduceDiv,reduceMod,↓reduceIte,reduceEqDiff,Nat.reduceBEq,reduceSub,Nat.reduceLT,reduceAdd,reduceLeDiff,reduceCtorEq,Int.reduceEq,Int.reduceNe,Int.reduceLT,Int.reduceLE,Int.reduceToNat]
    omega
 ·cases hs
end Go.Proofs.YtakolikdebfkeaaDoor
set_option maxRecDepth 100000
namespace Go.Proofs.YtakolikdebfkeaaDoor
open Go.RowKit
def c_zfour:ACode:=(.seq (.reg none [oS 2 (.new 63 [(4,(.blob [(.int .u8 0),(.int .u8 0),(.int .u8 0),(.int .u8 0)]))])]) (.seq (.reg none [oS 3 (.mv (.t 0)),oS 4 (.bin .shr (.t 3) (.c (.int .u64 24))),oS 5 (.toInt .u8 (.t 4)),oS 6 (.mv (.t 0)),oS 7 (.bin .shr (.t 6) (.c (.int .u64 16))),oS 8 (.toInt .u8 (.t 7)),oS 9 (.mv (.t 0)),oS 10 (.bin .shr (.t 9) (.c (.int .u64 8))),oS 11 (.toInt .u8 (.t 10)),oS 12 (.mv (.t 0)),oS 13 (.toInt .u8 (.t 12)),oS 14 (.buildA [(.int .u8 0),(.int .u8 0),(.int .u8 0),(.int .u8 0)] [(0,(.t 5)),(1,(.t 8)),(2,(.t 11)),(3,(.t 13))]),oN (.st (.arr 4) (.t 2) (.t 14))]) .ret))
def r_zfour:List ARes:=[(.c 2 (.arr 4))]
theorem s_zfour:slimF Tryd.prog Tryd.f31=some (c_zfour,r_zfour):=by kernel_rfl
def c_zwrap:ACode:=(.seq (.reg none [oS 2 (.mv (.c (.con (.slice none 0 0))))]) (.seq (.reg none [oS 5 (.mv (.t 0)),oS 6 (.call 32 [(.t 5)]),oS 7 (.call 31 [(.t 6)]),oS 3 (.new 63 [(4,(.blob [(.int .u8 0),(.int .u8 0),(.int .u8 0),(.int .u8 0)]))]),oN (.st (.arr 4) (.t 3) (.t 7))]) (.seq (.reg none [oS 8 (.buildSl 5 1 [(.c (.int .u8 120)),(.c (.int .u8 156))]),oS 9 (.mv (.t 0)),oS 10 (.call 33 [(.t 9)]),oS 11 (.app 5 1 1 (.t 8) (.t 10)),oS 4 (.mv (.t 11))]) (.seq (.reg none [oS 12 (.mv (.t 4)),oS 13 (.slA 4 (.t 3) none none),oS 14 (.app 5 1 1 (.t 12) (.t 13)),oS 2 (.mv (.t 14))]) .ret))))
def r_zwrap:List ARes:=[(.t 2)]
theorem s_zwrap:slimF Tryd.prog Tryd.f15=some (c_zwrap,r_zwrap):=by kernel_rfl
def c_adler:ACode:=(.seq (.reg none [oS 2 (.mv (.c (.int .u32 0)))]) (.seq (.reg none [oS 3 (.mv (.t 0)),oS 4 (.call 54 [(.c (.int .u32 1)),(.t 3)]),oS 2 (.mv (.t 4))]) .ret))
def r_adler:List ARes:=[(.t 2)]
theorem s_adler:slimF Tryd.prog Tryd.f32=some (c_adler,r_adler):=by kernel_rfl
def b_adlm_0:ACode:=(.seq (.reg none [oS 16 (.bin .lss (.t 15) (.t 14))]) (.seq (.cond (.t 16) .skip (.exit 0)) (.seq (.block 1 (.seq (.reg none [oS 17 (.ia 1 (.int .u8 0) (.t 13) (.t 15)),oS 18 (.ld (.one (.int .u8 0)) (.t 17)),oS 8 (.mv (.t 18))]) (.seq (.reg none [oS 19 (.mv (.t 5)),oS 20 (.mv (.t 8)),oS 21 (.toInt .u32 (.t 20)),oS 22 (.bin .add (.t 19) (.t 21)),oS 23 (.bin .rem (.t 22) (.c (.int .u32 65521))),oS 5 (.mv (.t 23))]) (.reg none [oS 24 (.mv (.t 6)),oS 25 (.mv (.t 5)),oS 26 (.bin .add (.t 24) (.t 25)),oS 27 (.bin .rem (.t 26) (.c (.int .u32 65521))),oS 6 (.mv (.t 27))])))) (.reg none [oS 28 (.bin .add (.t 15) (.c (.int .i64 1))),oS 15 (.mv (.t 28))]))))
def t_adlm_0:ACode:=(.seq (.reg none [oS 29 (.mv (.t 6)),oS 30 (.bin .shl (.t 29) (.c (.int .u64 16))),oS 31 (.mv (.t 5)),oS 32 (.bin .or (.t 30) (.t 31)),oS 4 (.mv (.t 32))]) .ret)
def c_adlm:ACode:=(.seq (.reg none [oS 4 (.mv (.c (.int .u32 0)))]) (.seq (.reg none [oS 9 (.mv (.t 0)),oS 10 (.bin .and (.t 9) (.c (.int .u32 65535))),oS 11 (.mv (.t 0)),oS 12 (.bin .shr (.t 11) (.c (.int .u64 16))),oS 5 (.mv (.t 10)),oS 6 (.mv (.t 12))]) (.seq (.seq (.reg none [oS 13 (.mv (.t 1)),oS 14 (.len none false (.t 13)),oS 15 (.mv (.c (.int .i64 0)))]) (.block 0 (.loop b_adlm_0))) t_adlm_0)))
def r_adlm:List ARes:=[(.t 4)]
theorem s_adlm:slimF Tryd.prog Tryd.f54=some (c_adlm,r_adlm):=by kernel_rfl
end Go.Proofs.YtakolikdebfkeaaDoor
namespace Go.Proofs.YtakolikdebfkeaaDoor
end Go.Proofs.YtakolikdebfkeaaDoor
namespace Go.Proofs.YtakolikdebfkeaaDoor
end Go.Proofs.YtakolikdebfkeaaDoor
namespace Go.Proofs.YtakolikdebfkeaaDoor
abbrev RdE (α:Type):=Except Nat (α × Nat)
def byteB (c:UInt8):List Bool:=(List.range 8).map fun i=>c.toNat.testBit i
def bitsOf (b:List UInt8):List Bool:=b.flatMap byteB
def bitsM (n v:Nat):List Bool:=(List.range n).map fun j=>(v / 2 ^ (n - 1 - j)).testBit 0
theorem bitsM_length (n v:Nat):(bitsM n v).length=n:=by simp [bitsM]
theorem bitsM_get {n v j:Nat} (h:j<n):(bitsM n v)[j]?=some ((v / 2 ^ (n - 1 - j)).testBit 0):=by
 simp [bitsM,h]
end Go.Proofs.YtakolikdebfkeaaDoor
namespace Go.Proofs.YtakolikdebfkeaaDoor
def bitsN (n v:Nat):List Bool:=(List.range n).map fun j=>v.testBit j
theorem bitsN_length (n v:Nat):(bitsN n v).length=n:=by simp [bitsN]
def moreN (lim:Nat):Nat→Nat→Nat
 | 0,_=>0
 | f+1,k=>if k<lim then 0 else moreN lim f (k / 2)+1
theorem more_ok (lim:Nat) (hl:0<lim):∀ f k,k<lim * 2 ^ f→k / 2 ^ moreN lim f k<lim∧moreN lim f k≤f∧(lim≤k→lim≤2 * (k / 2 ^ moreN lim f k)+1)
 | 0,k,h=>by
  rw [Nat.pow_zero,Nat.mul_one] at h
  simp only [moreN,Nat.pow_zero,Nat.div_one]
  omega
 | f+1,k,h=>by
  unfold moreN
  by_cases hk:k<lim
  ·rw [if_pos hk,Nat.pow_zero,Nat.div_one]; omega
  ·rw [if_neg hk]
   have hk2:k / 2<lim * 2 ^ f:=by rw [Nat.pow_succ,← Nat.mul_assoc] at h; omega
   obtain ⟨a,b,c⟩:=more_ok lim hl f (k / 2) hk2
   have e:k / 2 ^ (moreN lim f (k / 2)+1)=k / 2 / 2 ^ moreN lim f (k / 2):=by rw [Nat.pow_succ,Nat.mul_comm,Nat.div_div_eq_div_mul]
   rw [e]
   refine ⟨a,by omega,fun _=>?_⟩
   by_cases h2:lim≤k / 2
   ·exact c h2
   ·have h0:moreN lim f (k / 2)=0:=by
     cases f with
     | zero=>rfl
     | succ f=>unfold moreN; rw [if_pos (by omega)]
    rw [h0,Nat.pow_zero,Nat.div_one]; omega
def lenS (n:Nat):Nat × Nat × Nat :=
 if n=258 then (285,0,0) else
 if n - 3<8 then (257+(n - 3),0,0) else
 (257+4 * (moreN 8 8 (n - 3)+1)+(n - 3) / 2 ^ moreN 8 8 (n - 3) % 4,moreN 8 8 (n - 3),(n - 3) % 2 ^ moreN 8 8 (n - 3))
def distS (n:Nat):Nat × Nat × Nat :=
 if n - 1<4 then (n - 1,0,0) else
 (2 * (moreN 4 15 (n - 1)+1)+(n - 1) / 2 ^ moreN 4 15 (n - 1) % 2,moreN 4 15 (n - 1),(n - 1) % 2 ^ moreN 4 15 (n - 1))
end Go.Proofs.YtakolikdebfkeaaDoor
namespace Go.Proofs.YtakolikdebfkeaaDoor
inductive Tok where
 | lit (c:UInt8)
 | cpy (n back:Nat)
def fixC (k:Nat):Nat:=if k<144 then 48+k else if k<256 then 400+k - 144 else if k<280 then k - 256 else 192+k - 280
def fixN (k:Nat):Nat:=if k<144 then 8 else if k<256 then 9 else if k<280 then 7 else 8
def signB (k:Nat):List Bool:=bitsM (fixN k) (fixC k)
theorem fixN_ok (k:Nat):0<fixN k∧fixN k≤9:=by unfold fixN; (repeat' split) <;> omega
def tokB:Tok→List Bool
 | .lit c=>signB c.toNat
 | .cpy n back=>signB (lenS n).1 ++ (bitsN (lenS n).2.1 (lenS n).2.2 ++ (bitsM 5 (distS back).1 ++ bitsN (distS back).2.1 (distS back).2.2))
attribute [irreducible] signB
end Go.Proofs.YtakolikdebfkeaaDoor
namespace Go.Proofs.YtakolikdebfkeaaDoor
variable {td : List Bool → Nat → RdE (List Nat × List Nat)}
def valB:List Bool→Nat
 | []=>0
 | b :: r=>b.toNat+2 * valB r
theorem valB_lt:∀ x:List Bool,valB x<2 ^ x.length
 | []=>by simp [valB]
 | b :: r=>by
  have:=valB_lt r
  rw [valB,List.length_cons,Nat.pow_succ]
  cases b <;> simp <;> omega
theorem valB_bit:∀ (x:List Bool) (j:Nat),(valB x).testBit j=x.getD j false
 | [],j=>by simp [valB]
 | b :: r,j=>by
  have h:valB (b :: r)=b.toNat+2 * valB r:=rfl
  cases j with
  | zero =>
   rw [h,Nat.testBit_zero]
   cases b <;> simp <;> omega
  | succ j =>
   rw [Nat.testBit_succ,h,show (b.toNat+2 * valB r) / 2=valB r by cases b <;> simp <;> omega,valB_bit r j]; rfl
def packB:Nat→List Bool→List UInt8
 | 0,_=>[]
 | k+1,W=>if W=[] then [] else UInt8.ofNat (valB (W.take 8)) :: packB k (W.drop 8)
def packW (W:List Bool):List UInt8:=packB (W.length+1) W
theorem byteB_val {x:List Bool} (h:x.length≤8):byteB (UInt8.ofNat (valB x))=x ++ List.replicate (8 - x.length) false:=by
 have hv:valB x<256:=by
  have h1:=valB_lt x
  have h2:2 ^ x.length≤2 ^ 8:=Nat.pow_le_pow_right (by omega) h
  omega
 apply List.ext_getElem?
 intro j
 unfold byteB
 rw [UInt8.toNat_ofNat',Nat.mod_eq_of_lt hv,List.getElem?_map]
 by_cases hj:j<8
 ·rw [List.getElem?_range hj,Option.map_some,valB_bit]
  by_cases hx:j<x.length
  ·rw [List.getElem?_append_left hx,List.getD_eq_getElem?_getD,List.getElem?_eq_getElem hx]; rfl
  ·rw [List.getElem?_append_right (by omega),List.getElem?_replicate,if_pos (by omega),List.getD_eq_getElem?_getD,List.getElem?_eq_none (by omega)]; rfl
 ·rw [List.getElem?_eq_none (by simp; omega),List.getElem?_eq_none (by simp; omega)]; rfl
theorem packB_bits:∀ (k:Nat) (W:List Bool),W.length<k→∃ z,bitsOf (packB k W)=W ++ List.replicate z false∧z<8∧(packB k W).length=(W.length+7) / 8
 | k+1,W,h=>by
  by_cases hW:W=[]
  ·subst hW; exact ⟨0,rfl,by omega,rfl⟩
  ·have hl:0<W.length:=List.length_pos_iff.2 hW
   rw [packB,if_neg hW]
   have e:∀ (c:UInt8) (l:List UInt8),bitsOf (c :: l)=byteB c ++ bitsOf l:=fun _ _=>rfl
   obtain ⟨z,h1,h2,h3⟩:=packB_bits k (W.drop 8) (by rw [List.length_drop]; omega)
   rw [e,byteB_val (by rw [List.length_take]; omega),List.length_take]
   rw [List.length_drop] at h3
   by_cases h8:8≤W.length
   ·refine ⟨z,?_,h2,by rw [List.length_cons,h3]; omega⟩
    rw [Nat.min_eq_left h8,Nat.sub_self,List.replicate_zero,List.append_nil,h1,← List.append_assoc,List.take_append_drop]
   ·refine ⟨8 - W.length,?_,by omega,by rw [List.length_cons,h3]; omega⟩
    have hd:W.drop 8=[]:=List.drop_eq_nil_of_le (by omega)
    rw [hd] at h1 ⊢
    have hz:packB k []=[]:=by
     cases k with
     | zero=>rfl
     | succ k=>rfl
    rw [hz,Nat.min_eq_right (by omega),List.take_of_length_le (by omega)]
    simp [bitsOf]
theorem packW_bits (W:List Bool):∃ z,bitsOf (packW W)=W ++ List.replicate z false∧z<8∧(packW W).length=(W.length+7) / 8:=packB_bits _ W (by omega)
def fixW (r:List Tok):List Bool:=bitsN 3 3 ++ (r.flatMap tokB ++ signB 256)
end Go.Proofs.YtakolikdebfkeaaDoor
namespace Go.Proofs.YtakolikdebfkeaaDoor
variable {td : List Bool → Nat → RdE (List Nat × List Nat)}
def storH (last n:Nat):List UInt8:=[UInt8.ofNat last,UInt8.ofNat (n % 256),UInt8.ofNat (n / 256),UInt8.ofNat (255 - n % 256),UInt8.ofNat (255 - n / 256)]
def storB:Nat→List UInt8→List UInt8
 | 0,_=>[]
 | k+1,b=>if b.length≤65535 then storH 1 b.length ++ b else storH 0 65535 ++ (b.take 65535 ++ storB k (b.drop 65535))
def storW (b:List UInt8):List UInt8:=storB (b.length+1) b
end Go.Proofs.YtakolikdebfkeaaDoor
namespace Go.Proofs.YtakolikdebfkeaaDoor
variable {td : List Bool → Nat → RdE (List Nat × List Nat)}
def same3 (b:List UInt8) (p q:Nat):Bool:=decide (b.getD p 0=b.getD q 0) && decide (b.getD (p+1) 0=b.getD (q+1) 0) && decide (b.getD (p+2) 0=b.getD (q+2) 0)
def lastP (b:List UInt8) (q:Nat):Nat→Option Nat
 | 0=>none
 | k+1=>if same3 b k q=true then some k else lastP b q k
theorem lastP_lt {b:List UInt8} {q:Nat}:∀ {k p:Nat},lastP b q k=some p→p<k
 | k+1,p,h=>by
  unfold lastP at h
  split at h
  ·injection h with h; omega
  ·have:=lastP_lt h; omega
def mlen (b:List UInt8) (p q:Nat):Nat→Nat→Nat
 | 0,n=>n
 | f+1,n=>if n<258∧q+n<b.length∧b.getD (p+n) 0=b.getD (q+n) 0 then mlen b p q f (n+1) else n
def tokS (b:List UInt8) (q:Nat):Tok :=
 if q+3≤b.length then match lastP b q q with
  | some p=>if q - p≤32768∧3≤mlen b p q 258 0 then .cpy (mlen b p q 258 0) (q - p) else .lit (b.getD q 0)
  | none=>.lit (b.getD q 0)
 else .lit (b.getD q 0)
def stepT:Tok→Nat
 | .lit _=>1
 | .cpy n _=>n
def toksF (b:List UInt8):Nat→Nat→List Tok
 | 0,_=>[]
 | f+1,q=>if q<b.length then tokS b q :: toksF b f (q+stepT (tokS b q)) else []
def dflF (b:List UInt8):List UInt8:=packW (fixW (toksF b b.length 0))
def dflL (b:List UInt8):List UInt8:=if (dflF b).length≤(storW b).length then dflF b else storW b
end Go.Proofs.YtakolikdebfkeaaDoor
namespace Go.Proofs.YtakolikdebfkeaaDoor
end Go.Proofs.YtakolikdebfkeaaDoor
namespace Go.Proofs.YtakolikdebfkeaaDoor
variable {td : List Bool → Nat → RdE (List Nat × List Nat)}
def adlX:List UInt8→Nat→Nat→Nat × Nat
 | [],x,y=>(x,y)
 | c :: r,x,y=>adlX r ((x+c.toNat) % 65521) ((y+(x+c.toNat) % 65521) % 65521)
theorem adlX_lt:∀ (b:List UInt8) (x y:Nat),x<65521→y<65521→(adlX b x y).1<65521∧(adlX b x y).2<65521
 | [],_,_,h1,h2=>⟨h1,h2⟩
 | c :: r,x,y,_,_=>adlX_lt r _ _ (Nat.mod_lt _ (by omega)) (Nat.mod_lt _ (by omega))
def adlN (b:List UInt8):Nat:=(adlX b 1 0).2 * 65536+(adlX b 1 0).1
theorem adlN_lt (b:List UInt8):adlN b<4294967296:=by
 have:=adlX_lt b 1 0 (by omega) (by omega)
 unfold adlN; omega
def tail4 (n:Nat):List UInt8:=[UInt8.ofNat (n / 16777216),UInt8.ofNat (n / 65536 % 256),UInt8.ofNat (n / 256 % 256),UInt8.ofNat (n % 256)]
def zwrap (b:List UInt8):List UInt8:=[120,156] ++ dflL b ++ tail4 (adlN b)
theorem zwrap_len (b:List UInt8):(zwrap b).length=(dflL b).length+6:=by
 unfold zwrap; rw [List.length_append,List.length_append]; simp [tail4]; omega
end Go.Proofs.YtakolikdebfkeaaDoor
namespace Go.Proofs.YtakolikdebfkeaaDoor
open Go.RowKit
def b_dstor_0:ACode:=(.block 1 (.seq (.reg none [oS 6 (.mv (.t 0)),oS 7 (.len none false (.t 6)),oS 8 (.mm false (.t 7) (.c (.int .i64 65535))),oS 4 (.mv (.t 8))]) (.seq (.reg none [oS 5 (.mv (.c (.int .u8 0)))]) (.seq (.seq (.reg none [oS 9 (.mv (.t 4)),oS 10 (.mv (.t 0)),oS 11 (.len none false (.t 10)),oS 12 (.bin .eql (.t 9) (.t 11))]) (.cond (.t 12) (.reg none [oS 5 (.mv (.c (.int .u8 1)))]) .skip)) (.seq (.reg none [oS 13 (.mv (.t 3)),oS 14 (.mv (.t 5)),oS 15 (.mv (.t 4)),oS 16 (.toInt .u8 (.t 15)),oS 17 (.mv (.t 4)),oS 18 (.bin .shr (.t 17) (.c (.int .u64 8))),oS 19 (.toInt .u8 (.t 18)),oS 20 (.mv (.t 4)),oS 21 (.toInt .u8 (.t 20)),oS 22 (.un .xor (.t 21)),oS 23 (.mv (.t 4)),oS 24 (.bin .shr (.t 23) (.c (.int .u64 8))),oS 25 (.toInt .u8 (.t 24)),oS 26 (.un .xor (.t 25)),oS 27 (.buildSl 5 1 [(.t 14),(.t 16),(.t 19),(.t 22),(.t 26)]),oS 28 (.app 5 1 1 (.t 13) (.t 27)),oS 3 (.mv (.t 28))]) (.seq (.reg none [oS 29 (.mv (.t 3)),oS 30 (.mv (.t 0)),oS 31 (.mv (.t 4)),oS 32 (.sl 1 (.t 30) none (some (.t 31))),oS 33 (.app 5 1 1 (.t 29) (.t 32)),oS 3 (.mv (.t 33))]) (.seq (.reg none [oS 34 (.mv (.t 0)),oS 35 (.mv (.t 4)),oS 36 (.sl 1 (.t 34) (some (.t 35)) none),oS 0 (.mv (.t 36))]) (.seq (.reg none [oS 37 (.mv (.t 5)),oS 38 (.bin .eql (.t 37) (.c (.int .u8 1)))]) (.cond (.t 38) (.seq (.reg none [oS 39 (.mv (.t 3)),oS 2 (.mv (.t 39))]) .ret) .skip)))))))))
def c_dstor:ACode:=(.seq (.reg none [oS 2 (.mv (.c (.con (.slice none 0 0))))]) (.seq (.reg none [oS 3 (.mv (.c (.con (.slice none 0 0))))]) (.block 0 (.loop b_dstor_0))))
def r_dstor:List ARes:=[(.t 2)]
theorem s_dstor:slimF Tryd.prog Tryd.f56=some (c_dstor,r_dstor):=by kernel_rfl
def c_dput:ACode:=(.seq (.seq (.reg none [oS 4 (.mv (.t 0)),oS 5 (.nck (.t 4)),oS 6 (.fa 1 (.t 5)),oS 7 (.ld (.one (.int .i64 0)) (.t 6)),oS 8 (.bin .rem (.t 7) (.c (.int .i64 8))),oS 9 (.bin .eql (.t 8) (.c (.int .i64 0)))]) (.cond (.t 9) (.reg none [oS 10 (.mv (.t 0)),oS 11 (.mv (.t 0)),oS 12 (.nck (.t 11)),oS 13 (.fa 0 (.t 12)),oS 14 (.ld (.one (.con (.slice none 0 0))) (.t 13)),oS 15 (.buildSl 5 1 [(.c (.int .u8 0))]),oS 16 (.app 5 1 1 (.t 14) (.t 15)),oS 17 (.nck (.t 10)),oS 18 (.fa 0 (.t 17)),oN (.st (.one (.con (.slice none 0 0))) (.t 18) (.t 16))]) .skip)) (.seq (.reg (some [(0,false),(1,false),(2,false),(3,false),(4,false),(5,false),(6,false),(7,false),(8,false),(9,false),(10,false),(11,false),(12,false),(13,false),(14,false),(15,false),(16,false),(17,false),(18,false),(19,true),(20,true),(21,true)]) [oS 19 (.mv (.t 0)),oS 20 (.nck (.t 19)),oS 21 (.fa 0 (.t 20)),oS 22 (.ld (.one (.con (.slice none 0 0))) (.t 21)),oS 23 (.mv (.t 0)),oS 24 (.nck (.t 23)),oS 25 (.fa 1 (.t 24)),oS 26 (.ld (.one (.int .i64 0)) (.t 25)),oS 27 (.bin .quo (.t 26) (.c (.int .i64 8))),oS 28 (.ia 1 (.int .u8 0) (.t 22) (.t 27)),oS 29 (.ld (.one (.int .u8 0)) (.t 28)),oS 30 (.mv (.t 1)),oS 31 (.mv (.t 0)),oS 32 (.nck (.t 31)),oS 33 (.fa 1 (.t 32)),oS 34 (.ld (.one (.int .i64 0)) (.t 33)),oS 35 (.bin .rem (.t 34) (.c (.int .i64 8))),oS 36 (.bin .shl (.t 30) (.t 35)),oS 37 (.toInt .u8 (.t 36)),oS 38 (.bin .or (.t 29) (.t 37)),oS 39 (.ia 1 (.int .u8 0) (.t 22) (.t 27)),oN (.st (.one (.int .u8 0)) (.t 39) (.t 38))]) (.reg none [oS 40 (.mv (.t 0)),oS 41 (.nck (.t 40)),oS 42 (.fa 1 (.t 41)),oS 43 (.ld (.one (.int .i64 0)) (.t 42)),oS 44 (.bin .add (.t 43) (.c (.int .i64 1))),oS 45 (.nck (.t 40)),oS 46 (.fa 1 (.t 45)),oN (.st (.one (.int .i64 0)) (.t 46) (.t 44))])))
def r_dput:List ARes:=[]
theorem s_dput:slimF Tryd.prog Tryd.f110=some (c_dput,r_dput):=by kernel_rfl
def b_dnum_0:ACode:=(.seq (.reg none [oS 9 (.bin .lss (.t 8) (.t 7))]) (.seq (.cond (.t 9) .skip (.exit 0)) (.seq (.block 1 (.seq (.reg none [oS 10 (.mv (.t 8)),oS 6 (.mv (.t 10))]) (.reg none [oS 11 (.mv (.t 0)),oS 12 (.mv (.t 1)),oS 13 (.mv (.t 6)),oS 14 (.bin .shr (.t 12) (.t 13)),oS 15 (.bin .and (.t 14) (.c (.int .i64 1))),oS 16 (.call 110 [(.t 11),(.t 15)])]))) (.reg none [oS 17 (.bin .add (.t 8) (.c (.int .i64 1))),oS 8 (.mv (.t 17))]))))
def c_dnum:ACode:=(.seq (.reg none [oS 7 (.mv (.t 2)),oS 8 (.mv (.c (.int .i64 0)))]) (.block 0 (.loop b_dnum_0)))
def r_dnum:List ARes:=[]
theorem s_dnum:slimF Tryd.prog Tryd.f84=some (c_dnum,r_dnum):=by kernel_rfl
def b_dcode_0:ACode:=(.seq (.seq (.reg none [oS 9 (.mv (.t 6)),oS 10 (.bin .geq (.t 9) (.c (.int .i64 0)))]) (.cond (.t 10) .skip (.exit 0))) (.seq (.block 1 (.reg none [oS 13 (.mv (.t 0)),oS 14 (.mv (.t 1)),oS 15 (.mv (.t 6)),oS 16 (.bin .shr (.t 14) (.t 15)),oS 17 (.bin .and (.t 16) (.c (.int .i64 1))),oS 18 (.call 110 [(.t 13),(.t 17)])])) (.reg none [oS 11 (.mv (.t 6)),oS 12 (.bin .sub (.t 11) (.c (.int .i64 1))),oS 6 (.mv (.t 12))])))
def c_dcode:ACode:=(.seq (.reg none [oS 7 (.mv (.t 2)),oS 8 (.bin .sub (.t 7) (.c (.int .i64 1))),oS 6 (.mv (.t 8))]) (.block 0 (.loop b_dcode_0)))
def r_dcode:List ARes:=[]
theorem s_dcode:slimF Tryd.prog Tryd.f111=some (c_dcode,r_dcode):=by kernel_rfl
def c_dsign:ACode:=(.block 0 (.seq (.reg none [oS 10 (.mv (.t 1)),oS 11 (.bin .lss (.t 10) (.c (.int .i64 144))),oS 9 (.mv (.t 11))]) (.cond (.t 9) (.reg none [oS 12 (.mv (.t 0)),oS 13 (.mv (.t 1)),oS 14 (.bin .add (.c (.int .i64 48)) (.t 13)),oS 15 (.call 111 [(.t 12),(.t 14),(.c (.int .i64 8))])]) (.seq (.reg none [oS 17 (.mv (.t 1)),oS 18 (.bin .lss (.t 17) (.c (.int .i64 256))),oS 16 (.mv (.t 18))]) (.cond (.t 16) (.reg none [oS 19 (.mv (.t 0)),oS 20 (.mv (.t 1)),oS 21 (.bin .add (.c (.int .i64 400)) (.t 20)),oS 22 (.bin .sub (.t 21) (.c (.int .i64 144))),oS 23 (.call 111 [(.t 19),(.t 22),(.c (.int .i64 9))])]) (.seq (.reg none [oS 25 (.mv (.t 1)),oS 26 (.bin .lss (.t 25) (.c (.int .i64 280))),oS 24 (.mv (.t 26))]) (.cond (.t 24) (.reg none [oS 27 (.mv (.t 0)),oS 28 (.mv (.t 1)),oS 29 (.bin .sub (.t 28) (.c (.int .i64 256))),oS 30 (.call 111 [(.t 27),(.t 29),(.c (.int .i64 7))])]) (.reg none [oS 4 (.mv (.t 0)),oS 5 (.mv (.t 1)),oS 6 (.bin .add (.c (.int .i64 192)) (.t 5)),oS 7 (.bin .sub (.t 6) (.c (.int .i64 280))),oS 8 (.call 111 [(.t 4),(.t 7),(.c (.int .i64 8))])]))))))))
def r_dsign:List ARes:=[]
theorem s_dsign:slimF Tryd.prog Tryd.f87=some (c_dsign,r_dsign):=by kernel_rfl
def b_dlen_0:ACode:=(.seq (.seq (.reg none [oS 12 (.mv (.t 4)),oS 13 (.mv (.t 5)),oS 14 (.bin .shr (.t 12) (.t 13)),oS 15 (.bin .geq (.t 14) (.c (.int .i64 8)))]) (.cond (.t 15) .skip (.exit 0))) (.block 1 (.reg none [oS 16 (.mv (.t 5)),oS 17 (.bin .add (.t 16) (.c (.int .i64 1))),oS 5 (.mv (.t 17))])))
def t_dlen_0:ACode:=(.seq (.seq (.reg none [oS 18 (.mv (.t 4)),oS 19 (.bin .lss (.t 18) (.c (.int .i64 8)))]) (.cond (.t 19) (.seq (.reg none [oS 20 (.mv (.t 0)),oS 21 (.mv (.t 4)),oS 22 (.bin .add (.c (.int .i64 257)) (.t 21)),oS 23 (.call 87 [(.t 20),(.t 22)])]) .ret) .skip)) (.seq (.reg none [oS 24 (.mv (.t 0)),oS 25 (.mv (.t 5)),oS 26 (.bin .add (.t 25) (.c (.int .i64 1))),oS 27 (.bin .mul (.c (.int .i64 4)) (.t 26)),oS 28 (.bin .add (.c (.int .i64 257)) (.t 27)),oS 29 (.mv (.t 4)),oS 30 (.mv (.t 5)),oS 31 (.bin .shr (.t 29) (.t 30)),oS 32 (.bin .and (.t 31) (.c (.int .i64 3))),oS 33 (.bin .add (.t 28) (.t 32)),oS 34 (.call 87 [(.t 24),(.t 33)])]) (.reg none [oS 35 (.mv (.t 0)),oS 36 (.mv (.t 4)),oS 37 (.mv (.t 5)),oS 38 (.bin .shl (.c (.int .i64 1)) (.t 37)),oS 39 (.bin .sub (.t 38) (.c (.int .i64 1))),oS 40 (.bin .and (.t 36) (.t 39)),oS 41 (.mv (.t 5)),oS 42 (.call 84 [(.t 35),(.t 40),(.t 41)])])))
def c_dlen:ACode:=(.seq (.seq (.reg none [oS 6 (.mv (.t 1)),oS 7 (.bin .eql (.t 6) (.c (.int .i64 258)))]) (.cond (.t 7) (.seq (.reg none [oS 8 (.mv (.t 0)),oS 9 (.call 87 [(.t 8),(.c (.int .i64 285))])]) .ret) .skip)) (.seq (.reg none [oS 10 (.mv (.t 1)),oS 11 (.bin .sub (.t 10) (.c (.int .i64 3))),oS 4 (.mv (.t 11))]) (.seq (.reg none [oS 5 (.mv (.c (.int .i64 0)))]) (.seq (.block 0 (.loop b_dlen_0)) t_dlen_0))))
def r_dlen:List ARes:=[]
theorem s_dlen:slimF Tryd.prog Tryd.f85=some (c_dlen,r_dlen):=by kernel_rfl
def b_ddist_0:ACode:=(.seq (.seq (.reg none [oS 13 (.mv (.t 4)),oS 14 (.mv (.t 5)),oS 15 (.bin .shr (.t 13) (.t 14)),oS 16 (.bin .geq (.t 15) (.c (.int .i64 4)))]) (.cond (.t 16) .skip (.exit 0))) (.block 1 (.reg none [oS 17 (.mv (.t 5)),oS 18 (.bin .add (.t 17) (.c (.int .i64 1))),oS 5 (.mv (.t 18))])))
def t_ddist_0:ACode:=(.seq (.reg none [oS 19 (.mv (.t 0)),oS 20 (.mv (.t 5)),oS 21 (.bin .add (.t 20) (.c (.int .i64 1))),oS 22 (.bin .mul (.c (.int .i64 2)) (.t 21)),oS 23 (.mv (.t 4)),oS 24 (.mv (.t 5)),oS 25 (.bin .shr (.t 23) (.t 24)),oS 26 (.bin .and (.t 25) (.c (.int .i64 1))),oS 27 (.bin .add (.t 22) (.t 26)),oS 28 (.call 111 [(.t 19),(.t 27),(.c (.int .i64 5))])]) (.reg none [oS 29 (.mv (.t 0)),oS 30 (.mv (.t 4)),oS 31 (.mv (.t 5)),oS 32 (.bin .shl (.c (.int .i64 1)) (.t 31)),oS 33 (.bin .sub (.t 32) (.c (.int .i64 1))),oS 34 (.bin .and (.t 30) (.t 33)),oS 35 (.mv (.t 5)),oS 36 (.call 84 [(.t 29),(.t 34),(.t 35)])]))
def c_ddist:ACode:=(.seq (.reg none [oS 6 (.mv (.t 1)),oS 7 (.bin .sub (.t 6) (.c (.int .i64 1))),oS 4 (.mv (.t 7))]) (.seq (.seq (.reg none [oS 8 (.mv (.t 4)),oS 9 (.bin .lss (.t 8) (.c (.int .i64 4)))]) (.cond (.t 9) (.seq (.reg none [oS 10 (.mv (.t 0)),oS 11 (.mv (.t 4)),oS 12 (.call 111 [(.t 10),(.t 11),(.c (.int .i64 5))])]) .ret) .skip)) (.seq (.reg none [oS 5 (.mv (.c (.int .i64 0)))]) (.seq (.block 0 (.loop b_ddist_0)) t_ddist_0))))
def r_ddist:List ARes:=[]
theorem s_ddist:slimF Tryd.prog Tryd.f86=some (c_ddist,r_ddist):=by kernel_rfl
def b_dfix_0:ACode:=(.seq (.seq (.reg (some [(0,true),(1,true),(2,true),(3,false),(4,false),(5,false),(6,false),(7,false),(8,true),(9,true),(10,true),(11,false),(12,false),(13,false),(14,false),(15,false),(16,false),(17,false),(18,false),(19,false),(20,false),(21,false),(22,false),(23,true),(24,true)]) [oS 45 (.mv (.t 6)),oS 46 (.bin .lss (.t 45) (.c (.int .i64 258))),oS 47 (.mv (.t 46)),oG 48 (.mv (.t 5)) 47,oG 49 (.mv (.t 6)) 47,oG 50 (.bin .add (.t 48) (.t 49)) 47,oG 51 (.mv (.t 0)) 47,oG 52 (.len none false (.t 51)) 47,oG 53 (.bin .lss (.t 50) (.t 52)) 47,oS 54 (.pick (.t 47) (.t 53) (.c (.bool false))),oS 55 (.mv (.t 54)),oG 56 (.mv (.t 0)) 55,oG 57 (.mv (.t 8)) 55,oG 58 (.mv (.t 6)) 55,oG 59 (.bin .add (.t 57) (.t 58)) 55,oG 60 (.ia 1 (.int .u8 0) (.t 56) (.t 59)) 55,oG 61 (.ld (.one (.int .u8 0)) (.t 60)) 55,oG 62 (.mv (.t 0)) 55,oG 63 (.mv (.t 5)) 55,oG 64 (.mv (.t 6)) 55,oG 65 (.bin .add (.t 63) (.t 64)) 55,oG 66 (.ia 1 (.int .u8 0) (.t 62) (.t 65)) 55,oG 67 (.ld (.one (.int .u8 0)) (.t 66)) 55,oG 68 (.bin .eql (.t 61) (.t 67)) 55,oS 69 (.pick (.t 55) (.t 68) (.c (.bool false)))]) (.cond (.t 69) .skip (.exit 2))) (.block 3 (.reg none [oS 70 (.mv (.t 6)),oS 71 (.bin .add (.t 70) (.c (.int .i64 1))),oS 6 (.mv (.t 71))])))
def b_dfix_1:ACode:=(.seq (.reg none [oS 90 (.bin .lss (.t 89) (.t 88))]) (.seq (.cond (.t 90) .skip (.exit 4)) (.seq (.block 5 (.seq (.seq (.reg none [oS 91 (.mv (.t 5)),oS 92 (.bin .add (.t 91) (.c (.int .i64 3))),oS 93 (.mv (.t 0)),oS 94 (.len none false (.t 93)),oS 95 (.bin .leq (.t 92) (.t 94))]) (.cond (.t 95) (.reg none [oS 96 (.mv (.t 4)),oS 97 (.mv (.t 0)),oS 98 (.mv (.t 5)),oS 99 (.sl 1 (.t 97) (some (.t 98)) none),oS 100 (.s2a 3 (.t 99)),oS 101 (.ld (.arr 3) (.t 100)),oS 102 (.mv (.t 5)),oN (.mput (.a 3) (.t 96) (.t 101) (.t 102))]) .skip)) (.reg none [oS 103 (.mv (.t 5)),oS 104 (.bin .add (.t 103) (.c (.int .i64 1))),oS 5 (.mv (.t 104))]))) (.reg none [oS 105 (.bin .add (.t 89) (.c (.int .i64 1))),oS 89 (.mv (.t 105))]))))
def t_dfix_0:ACode:=(.seq (.reg none [oS 10 (.mv (.c (.int .i64 1)))]) (.seq (.seq (.reg none [oS 72 (.mv (.t 6)),oS 73 (.bin .geq (.t 72) (.c (.int .i64 3)))]) (.cond (.t 73) (.seq (.reg none [oS 74 (.mv (.t 3)),oS 75 (.mv (.t 6)),oS 76 (.call 85 [(.t 74),(.t 75)])]) (.seq (.reg none [oS 77 (.mv (.t 3)),oS 78 (.mv (.t 7)),oS 79 (.call 86 [(.t 77),(.t 78)])]) (.reg none [oS 80 (.mv (.t 6)),oS 10 (.mv (.t 80))]))) (.reg none [oS 81 (.mv (.t 3)),oS 82 (.mv (.t 0)),oS 83 (.mv (.t 5)),oS 84 (.ia 1 (.int .u8 0) (.t 82) (.t 83)),oS 85 (.ld (.one (.int .u8 0)) (.t 84)),oS 86 (.toInt .i64 (.t 85)),oS 87 (.call 87 [(.t 81),(.t 86)])]))) (.seq (.reg none [oS 88 (.mv (.t 10)),oS 89 (.mv (.c (.int .i64 0)))]) (.block 4 (.loop b_dfix_1)))))
def b_dfix_2:ACode:=(.seq (.seq (.reg none [oS 16 (.mv (.t 5)),oS 17 (.mv (.t 0)),oS 18 (.len none false (.t 17)),oS 19 (.bin .lss (.t 16) (.t 18))]) (.cond (.t 19) .skip (.exit 0))) (.block 1 (.seq (.reg none [oS 6 (.mv (.c (.int .i64 0))),oS 7 (.mv (.c (.int .i64 0)))]) (.seq (.seq (.reg none [oS 20 (.mv (.t 5)),oS 21 (.bin .add (.t 20) (.c (.int .i64 3))),oS 22 (.mv (.t 0)),oS 23 (.len none false (.t 22)),oS 24 (.bin .leq (.t 21) (.t 23))]) (.cond (.t 24) (.seq (.reg none [oS 26 (.mv (.t 4)),oS 27 (.mv (.t 0)),oS 28 (.mv (.t 5)),oS 29 (.sl 1 (.t 27) (some (.t 28)) none),oS 30 (.s2a 3 (.t 29)),oS 31 (.ld (.arr 3) (.t 30)),oS 32 (.mget true (.a 3) (.int .i64 0) (.t 26) (.t 31)),oS 25 (.mv (.t 32)),oS 33 (.ext (.t 25) 0),oS 34 (.ext (.t 25) 1),oS 8 (.mv (.t 33)),oS 9 (.mv (.t 34))]) (.seq (.reg none [oS 35 (.mv (.t 9)),oS 36 (.mv (.t 35)),oG 37 (.mv (.t 5)) 36,oG 38 (.mv (.t 8)) 36,oG 39 (.bin .sub (.t 37) (.t 38)) 36,oG 40 (.bin .leq (.t 39) (.c (.int .i64 32768))) 36,oS 41 (.pick (.t 36) (.t 40) (.c (.bool false)))]) (.cond (.t 41) (.seq (.reg none [oS 42 (.mv (.t 5)),oS 43 (.mv (.t 8)),oS 44 (.bin .sub (.t 42) (.t 43)),oS 7 (.mv (.t 44))]) (.block 2 (.loop b_dfix_0))) .skip))) .skip)) t_dfix_0))))
def t_dfix_1:ACode:=(.seq (.reg none [oS 106 (.mv (.t 3)),oS 107 (.call 87 [(.t 106),(.c (.int .i64 256))])]) (.seq (.reg none [oS 108 (.mv (.t 3)),oS 109 (.nck (.t 108)),oS 110 (.fa 0 (.t 109)),oS 111 (.ld (.one (.con (.slice none 0 0))) (.t 110)),oS 2 (.mv (.t 111))]) .ret))
def c_dfix:ACode:=(.seq (.reg none [oS 2 (.mv (.c (.con (.slice none 0 0))))]) (.seq (.reg none [oS 11 (.build [(1,(.con (.slice none 0 0))),(1,(.int .i64 0))] []),oS 12 (.box 137 2 (.t 11)),oS 3 (.mv (.t 12))]) (.seq (.reg none [oS 13 (.mv (.t 3)),oS 14 (.call 84 [(.t 13),(.c (.int .i64 3)),(.c (.int .i64 3))])]) (.seq (.reg none [oS 15 (.mkMap (.a 3)),oS 4 (.mv (.t 15))]) (.seq (.seq (.reg none [oS 5 (.mv (.c (.int .i64 0)))]) (.block 0 (.loop b_dfix_2))) t_dfix_1)))))
def r_dfix:List ARes:=[(.t 2)]
theorem s_dfix:slimF Tryd.prog Tryd.f55=some (c_dfix,r_dfix):=by kernel_rfl
def c_draw:ACode:=(.seq (.reg none [oS 2 (.mv (.c (.con (.slice none 0 0))))]) (.seq (.reg none [oS 5 (.mv (.t 0)),oS 6 (.call 55 [(.t 5)]),oS 7 (.mv (.t 0)),oS 8 (.call 56 [(.t 7)]),oS 3 (.mv (.t 6)),oS 4 (.mv (.t 8))]) (.seq (.seq (.reg none [oS 9 (.mv (.t 3)),oS 10 (.len none false (.t 9)),oS 11 (.mv (.t 4)),oS 12 (.len none false (.t 11)),oS 13 (.bin .leq (.t 10) (.t 12))]) (.cond (.t 13) (.seq (.reg none [oS 14 (.mv (.t 3)),oS 2 (.mv (.t 14))]) .ret) .skip)) (.seq (.reg none [oS 15 (.mv (.t 4)),oS 2 (.mv (.t 15))]) .ret))))
def r_draw:List ARes:=[(.t 2)]
theorem s_draw:slimF Tryd.prog Tryd.f33=some (c_draw,r_draw):=by kernel_rfl
end Go.Proofs.YtakolikdebfkeaaDoor
