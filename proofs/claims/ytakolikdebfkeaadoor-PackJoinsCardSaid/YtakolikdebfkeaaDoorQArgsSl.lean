import Derived.Test.YtakolikdebfkeaaDoorQAM11
import Derived.Test.YtakolikdebfkeaaDoorQFPk1
open Nat (reduceDiv reduceMod reduceSub reduceAdd reduceLeDiff reduceEqDiff)
set_option linter.all false
namespace Go.Proofs.YtakolikdebfkeaaDoor
open Go.RowKit Go.ChangeShapes Go.WideShapes Go.ChangeAt Go.Deep
section
variable {H : Type} {enc : TypeId × Value → H} {P : Program} {w : World} {base : Nat} {spare : Nat → Bool} {held : Bool}
theorem cell_lt {b o:Nat} {u:Value} (h:w.cell? ⟨b,o,none⟩=some u):b<w.heap.size:=by
 rcases Nat.lt_or_ge b w.heap.size with h1 | h1
 ·exact h1
 ·simp [World.cell?,Array.getElem?_eq_none h1] at h
theorem flat_get (uss:List (List Value)) (k:Nat) (hk:∀ us∈uss,us.length=k) (i j:Nat) (hi:i<uss.length) (hj:j<k):uss.flatten[i * k+j]?=uss[i][j]?:=by
 induction uss generalizing i with
 | nil=>simp at hi
 | cons us uss ih =>
  have hl:=hk us (List.mem_cons_self ..)
  cases i with
  | zero=>simp only [List.flatten_cons,Nat.zero_mul,Nat.zero_add,List.getElem_cons_zero]; rw [List.getElem?_append_left (by omega)]
  | succ i =>
   simp only [List.flatten_cons,List.getElem_cons_succ]
   rw [List.getElem?_append_right (by rw [hl,Nat.succ_mul]; omega),hl,show (i+1) * k+j - k=i * k+j by rw [Nat.succ_mul]; omega]
   exact ih (fun us h=>hk us (List.mem_cons_of_mem _ h)) i (by simpa using hi)
theorem flat_len (uss:List (List Value)) (k:Nat) (hk:∀ us∈uss,us.length=k):uss.flatten.length=uss.length * k:=by
 induction uss with
 | nil=>simp
 | cons us uss ih=>rw [List.flatten_cons,List.length_append,hk us (List.mem_cons_self ..),ih fun u h=>hk u (List.mem_cons_of_mem _ h),List.length_cons,Nat.succ_mul]; omega
theorem open_sl {S:Nat→Prop} {ρ:Rho} (hS:∀ b,b<w.heap.size→S b) {t e:TypeId} {k:Nat} (ht:P.underlying t=some (.slice e)) (hk:P.cellsOf e=k) (k0:0<k) {α:Type} (g:α→AV) (Pr:α→Prop)
  (hel:∀ fuel cs x,DataW.trod enc P w base spare held fuel e cs=some x→∃ a,Cs w S rho0 (g a) cs∧cs.length=k∧Pr a)
  {fuel:Nat} {cs:List Value} {x:DataW H × List MemPlace} (h:DataW.trod enc P w base spare held fuel t cs=some x):∃ (v:Value) (xs:List α),cs=[v]∧Cs w S ρ (.sl k (xs.map g)) [v]∧xs.length≤9223372036854775807∧∀ a∈xs,Pr a:=by
 rcases open_slice ht h with ⟨h0,_⟩ | ⟨a,len,cap,m,n,D,Pl,hcs,hb,hl,hm,hmm,hx,hi⟩
 ·exact ⟨_,[],h0,.sl0 _ _ _ (by omega),by simp,fun a ha=>by cases ha⟩
 ·have hcap:cap≤9223372036854775807:=by simpa [maxLen] using hm
  obtain ⟨ps,hlen,hp⟩:=list_of len (fun i (p:α × List Value)=>Cs w S rho0 (g p.1) p.2∧p.2.length=k∧Pr p.1∧∀ j,j<k→w.cell? (a.add (i * k+j))=p.2[j]?) (fun i hil=>by
   have him:i<m:=by rw [hmm]; split <;> omega
   obtain ⟨cs',hc,ht'⟩:=hi i him
   rw [hk] at hc
   obtain ⟨_,hcl,hat⟩:=World.cells?_some hc
   obtain ⟨y,h1,h2,h3⟩:=hel _ _ _ ht'
   exact ⟨(y,cs'),h1,h2,h3,fun j hj=>by rw [← Go.Deep.add_add]; exact hat j hj⟩)
  refine ⟨_,ps.map Prod.fst,hcs,?_,by rw [List.length_map]; omega,fun y hy=>?_⟩
  rotate_left
  ·obtain ⟨p,hpm,rfl⟩:=List.mem_map.1 hy
   obtain ⟨i,hil,rfl⟩:=List.getElem_of_mem hpm
   exact (hp i hil).2.2.1
  rcases Nat.eq_zero_or_pos len with h0 | h0
  ·subst h0
   obtain rfl:=List.eq_nil_of_length_eq_zero hlen
   exact .sl0 _ _ _ hcap
  ·have hks:∀ us∈ps.map Prod.snd,us.length=k:=by
    intro us hus
    obtain ⟨p,hpm,rfl⟩:=List.mem_map.1 hus
    obtain ⟨i,hil,rfl⟩:=List.getElem_of_mem hpm
    exact (hp i hil).2.1
   have hfl:=flat_len _ k hks
   rw [List.length_map,hlen] at hfl
   obtain ⟨b,off,spot⟩:=a
   have hc0:=(hp 0 (by omega)).2.2.2 0 k0
   have hs0:(ps[0]'(by omega)).2[0]?=some ((ps[0]'(by omega)).2[0]'(by rw [(hp 0 (by omega)).2.1]; exact k0)):=List.getElem?_eq_getElem _
   rw [hs0] at hc0
   have hspot:spot=none:=by simpa [Addr.add] using World.cell?_spot hc0
   subst hspot
   rw [add_spot] at hc0
   have hcell:∀ j,j<(ps.map Prod.snd).flatten.length→w.cell? ⟨b,off+j,none⟩=(ps.map Prod.snd).flatten[j]?:=by
    intro j hj
    rw [hfl] at hj
    have hjk:j / k<len:=(Nat.div_lt_iff_lt_mul k0).2 hj
    have hjm:=Nat.mod_lt j k0
    have h1:=(hp (j / k) (by omega)).2.2.2 (j % k) hjm
    have h2:=flat_get (ps.map Prod.snd) k hks (j / k) (j % k) (by rw [List.length_map]; omega) hjm
    rw [show j / k * k+j % k=j by rw [Nat.mul_comm]; exact Nat.div_add_mod j k] at h1 h2
    rw [add_spot] at h1
    rw [h1,h2,List.getElem_map]
   have hagg:Cs w S rho0 (.agg (prs k ((ps.map Prod.fst).map g))) (ps.map Prod.snd).flatten:=by
    refine .agg _ (ps.map Prod.snd) (by simp [prs]) (fun i hi=>?_) (fun i hi=>?_)
    ·have hi2:i<ps.length:=by simpa [prs] using hi
     have e1:(ps.map Prod.snd).getD i []=ps[i].2:=by simp [List.getD_eq_getElem?_getD,List.getElem?_eq_getElem hi2]
     have e2:(prs k ((ps.map Prod.fst).map g)).getD i (0,.top)=(k,g ps[i].1):=by simp [prs,List.getD_eq_getElem?_getD,List.getElem?_eq_getElem hi2]
     rw [e1,e2]; exact (hp i hi2).2.1
    ·have hi2:i<ps.length:=by simpa [prs] using hi
     have e1:(ps.map Prod.snd).getD i []=ps[i].2:=by simp [List.getD_eq_getElem?_getD,List.getElem?_eq_getElem hi2]
     have e2:(prs k ((ps.map Prod.fst).map g)).getD i (0,.top)=(k,g ps[i].1):=by simp [prs,List.getD_eq_getElem?_getD,List.getElem?_eq_getElem hi2]
     rw [e1,e2]; exact (hp i hi2).1
   have hlx:((ps.map Prod.fst).map g).length=len:=by simpa using hlen
   have:=Cs.sl (ρ:=ρ) k ((ps.map Prod.fst).map g) (ps.map Prod.snd).flatten b off cap (hS b (cell_lt hc0)) hagg (by rw [hfl,hlx]) hcell (by rw [hlx]; omega) hcap
   rwa [hlx] at this
end
end Go.Proofs.YtakolikdebfkeaaDoor
namespace Go.Proofs.YtakolikdebfkeaaDoor
open Go.RowKit Go.ChangeShapes Go.WideShapes Go.ChangeAt Go.Deep
def ThArg (w:World) (v:Value):Prop:=∃ l:List (Int × List UInt8),∀ ρ,Vl1 w (fun b=>b<w.heap.size) ρ (.sl 2 (l.map itV)) v
section
variable {H : Type} {enc : TypeId × Value → H} {P : Program} {w : World} {base : Nat} {spare : Nat → Bool} {held : Bool}
theorem trod_byte1 {t:TypeId} {fuel:Nat} {cs:List Value} {x:DataW H × List MemPlace} (ht:P.underlying t=some (.int .u8)) (h:DataW.trod enc P w base spare held fuel t cs=some x):∃ u:UInt8,cs=[U u]:=by
 obtain ⟨i,e,_,wi⟩:=DataW.trod_int ht h
 have h4:(Lit.int .u8 i).wf=true:=wi
 simp [Lit.wf,IntKind.min,IntKind.max,IntKind.signed,IntKind.bits] at h4
 refine ⟨UInt8.ofNat i.toNat,?_⟩
 rw [e]
 simp only [U,List.cons.injEq,and_true,Value.int.injEq,true_and]
 simp
 omega
theorem trod_thing {t tb e:TypeId} {f0 f1:Field} {fuel:Nat} {cs:List Value} {x:DataW H × List MemPlace} (ht:P.underlying t=some (.struct #[f0,f1])) (o0:f0.offset=0) (o1:f1.offset=1) (ty1:f1.type=tb) (t0:P.underlying f0.type=some (.int .i64)) (tb' : P.underlying tb=some (.slice e)) (te:P.underlying e=some (.int .u8))
  (c0:P.cellsOf f0.type=1) (c1:P.cellsOf tb=1) (ce:P.cellsOf e=1) (hct:P.cellsOf t=2) (hf:DataW.trod enc P w base spare held fuel t cs=some x) :
  ∃ a:Int × List UInt8,Cs w (fun b=>b<w.heap.size) rho0 (itV a) cs∧cs.length=2∧True:=by
 obtain ⟨xs,n,_,rfl,hl,hlen,hf⟩:=DataW.trod_struct ht hf
 have k0:=hf 0 f0 rfl
 have k1:=hf 1 f1 rfl
 rw [hct] at hl
 match xs,hlen,cs,hl with
 | [y0,y1],_,[a0,a1],_ =>
  rw [o0,c0] at k0
  rw [o1,ty1,c1] at k1
  obtain ⟨i,e0,_,_⟩:=DataW.trod_int t0 k0
  obtain ⟨v,xs,e1,j1,_,_⟩:=open_sl (S:=fun b=>b<w.heap.size) (ρ:=rho0) (fun _ h=>h) tb' ce (by decide) ub (fun _:UInt8=>True) (fun fuel cs x h=>by
   obtain ⟨u,rfl⟩:=trod_byte1 te h
   exact ⟨u,.int _ _,rfl,trivial⟩) k1
  simp at e0 e1
  subst e0 e1
  exact ⟨(i,xs),Css.cs ⟨[.int .i64 i],_,rfl,rfl,.int _ _,[a1],[],rfl,rfl,j1,rfl⟩,rfl,trivial⟩
theorem open_things {r:Reach} {b0:Nat} {t te tb e:TypeId} {f0 f1:Field} {v:Value} {d:DataW H} {ps:List MemPlace} (ht:P.underlying t=some (.slice te)) (hte:P.underlying te=some (.struct #[f0,f1])) (o0:f0.offset=0) (o1:f1.offset=1) (ty1:f1.type=tb)
  (t0:P.underlying f0.type=some (.int .i64)) (tb' : P.underlying tb=some (.slice e)) (te' : P.underlying e=some (.int .u8)) (c0:P.cellsOf f0.type=1) (c1:P.cellsOf tb=1) (ce:P.cellsOf e=1) (cte:P.cellsOf te=2)
  (hval:Value.okWide P w r b0 t v) (hd:DataW.Trod enc P w base spare held t v d ps):ThArg w v:=by
 obtain ⟨A,n,c,rfl⟩:=okWide_slice ht hval
 obtain ⟨fuel,hf⟩:=hd
 obtain ⟨u,xs,hcs,h1,_,_⟩:=open_sl (S:=fun b=>b<w.heap.size) (ρ:=rho0) (fun _ h=>h) ht cte (by decide) itV (fun _:Int × List UInt8=>True) (fun fuel cs x h=>trod_thing hte o0 o1 ty1 t0 tb' te' c0 c1 ce cte h) hf
 simp [Value.cells] at hcs
 subst hcs
 exact ⟨xs,fun ρ=>.inr ⟨_,h1.ext (fun _ _=>rfl) (fun _ h=>h) (fun _ _ _ h=>by cases h),rfl⟩⟩
end
end Go.Proofs.YtakolikdebfkeaaDoor
namespace Go.Proofs.YtakolikdebfkeaaDoor
open Go.RowKit
theorem few_short (l:List (Int × List UInt8)):∀ x∈fewL l,x.2.length≤300:=by
 intro x hx
 unfold fewL at hx
 obtain ⟨y,_,rfl⟩:=List.mem_map.1 hx
 show (y.2.take 300).length≤300
 rw [List.length_take]; omega
theorem few_shortB (l:List (Int × List UInt8)):shortB (fewL l):=⟨by have:=few_len l; omega,fun x hx=>by have:=few_short l x hx; omega⟩
theorem few_short2 (l m:List (Int × List UInt8)):shortB (fewL l ++ fewL m):=by
 have h1:=few_len l
 have h2:=few_len m
 refine ⟨by rw [List.length_append]; omega,fun x hx=>?_⟩
 rcases List.mem_append.1 hx with h | h
 ·have:=few_short l x h; omega
 ·have:=few_short m x h; omega
theorem allW_append (l m:List (Int × List UInt8)):allW (l ++ m)=(allW l && allW m):=by unfold allW; rw [List.all_append]
theorem packO_len (l:List (Int × List UInt8)):(packO l).length=32+(l.map entryL).flatten.length:=by
 unfold packO packL
 have hs:∀ b:List UInt8,(sha b).length=20:=fun b=>by unfold sha; exact bytes_len _
 rw [List.length_append,body_len,hs]; omega
theorem packO_mid (l:List (Int × List UInt8)):((packO l).take ((packO l).length - 20)).drop 12=(l.map entryL).flatten:=by
 have hl:=packO_len l
 have hs:∀ b:List UInt8,(sha b).length=20:=fun b=>by unfold sha; exact bytes_len _
 have hb:=body_len (l.map entryL).length (l.map entryL)
 have e1:(packO l).take ((packO l).length - 20)=bodyL (l.map entryL).length (l.map entryL):=by
  unfold packO packL at hl ⊢
  rw [List.take_append_of_le_length (by rw [hl,hb]; omega),List.take_of_length_le (by rw [hl,hb]; omega)]
 rw [e1]
 unfold bodyL
 have e2:(magicL ++ beL (l.map entryL).length 4).length=12:=by rw [List.length_append,beL_len]; rfl
 rw [show (12:Nat)=(magicL ++ beL (l.map entryL).length 4).length from e2.symm,List.drop_left]
theorem flx_Bk (l:List UInt8):(∀ x,x∈Bs l→flatB 4 x=true)=True:=eq_true (flat_Bk l)
theorem packO_cnt (l:List (Int × List UInt8)) (h:l.length<256):((packO l).getD 11 0).toNat=l.length:=by
 have e:packO l=magicL ++ (beL l.length 4 ++ ((l.map entryL).flatten ++ sha (bodyL (l.map entryL).length (l.map entryL)))):=by
  unfold packO packL
  conv=>lhs; unfold bodyL
  rw [List.length_map]
  simp only [List.append_assoc]
  rw [show bodyL l.length (l.map entryL)=magicL ++ (beL l.length 4 ++ (l.map entryL).flatten) by unfold bodyL; simp only [List.append_assoc]]
 rw [e,List.getD_eq_getElem?_getD,List.getElem?_append_right (by rw [magic_len]; omega),magic_len,List.getElem?_append_left (by rw [beL_len]; omega)]
 have hb:(beL l.length 4)[11 - 8]?=some (o8 l.length):=by
  simp [beL]
 rw [hb]
 show (o8 l.length).toNat=l.length
 unfold o8
 simp; omega
theorem mid_sl (l:List (Int × List UInt8)):List.take (((packO l).length:Int) - 20 - 12).toNat (List.drop 12 (Bs (packO l)))=Bs (l.map entryL).flatten:=by
 have hl:=packO_len l
 have h:=packO_mid l
 rw [← h,Bs_drop,Bs_take,List.drop_take]
 congr 2
 omega
def pjS:Spec:=fun xs hp=>match xs,hp with
 | [.sl 2 ts,.sl 2 us],[]=>some ⟨.bool true,[],ts=(unIts ts).map itV∧us=(unIts us).map itV⟩
 | _,_=>none
set_option maxRecDepth 8000 in
theorem pj_ok:FnOk Tryd.prog 3 pjS:=by
 refine fn_slim2 Tryd.func3 s_lpj (Φ:=phiL [(6,[],few12S),(7,[],kinds12S),(8,[],known12S),(9,[],pwriteS)]) (phi_cons few12_ok (by kernel_rfl) (phi_cons kinds12_ok (by kernel_rfl) (phi_cons known12_ok (by kernel_rfl) (phi_cons pwrite_ok (by kernel_rfl) phi_nil)))) ?_
 intro xs hp r hs hp'
 unfold pjS at hs
 split at hs
 ·rename_i ts us
  injection hs with hs; subst hs
  obtain ⟨h1,h2⟩:=hp'
  generalize unIts ts=l at *
  generalize unIts us=m at *
  subst h1; subst h2
  have k1:=unIts_it l
  have k2:=unIts_it m
  have k3:=unIts_it (fewL l)
  have k4:=unIts_it (fewL m)
  refine ⟨len_le (by kernel_rfl),?_⟩
  have n1:=few_len l
  have n2:=few_len m
  by_cases hk:allW (fewL l)=true∧allW (fewL m)=true
  ·obtain ⟨hk1,hk2⟩:=hk
   have k5:=unIts_it (fewL l ++ fewL m)
   have hk3:allW (fewL l ++ fewL m)=true:=by rw [allW_append,hk1,hk2]; rfl
   have sh1:=few_shortB l
   have sh2:=few_shortB m
   have sh3:=few_short2 l m
   have cnt:=packO_cnt (fewL l ++ fewL m) (by rw [List.length_append]; omega)
   rw [List.length_append] at cnt
   have cat:((fewL l ++ fewL m).map entryL).flatten=((fewL l).map entryL).flatten ++ ((fewL m).map entryL).flatten:=by rw [List.map_append,List.flatten_append]
   have z1:=packO_len (fewL l)
   have z2:=packO_len (fewL m)
   have z3:=packO_len (fewL l ++ fewL m)
   have e1:=entries_len (fewL l) sh1.2
   have e2:=entries_len (fewL m) sh2.2
   have d1:decide (((packO (fewL l)).length:Int)<32)=false:=decide_eq_false (by omega)
   have d2:decide (((packO (fewL m)).length:Int)<32)=false:=decide_eq_false (by omega)
   have d3:decide (((packO (fewL l ++ fewL m)).length:Int)<32)=false:=decide_eq_false (by omega)
   have m1:=mid_sl (fewL l)
   have m2:=mid_sl (fewL m)
   have m3:=mid_sl (fewL l ++ fewL m)
   have c1:decide (((fewL l).map entryL).flatten ++ ((fewL m).map entryL).flatten=((fewL l ++ fewL m).map entryL).flatten)=true:=decide_eq_true cat.symm
   simp only [c_lpj,r_lpj,few12S,kinds12S,known12S,pwriteS,k1,k2,k3,k4,hk1,hk2,List.length_map,← List.map_append,k5,hk3,d1,d2,d3,m1,m2,m3,unB_Bs,c1,↓flx_Bk,go_sem,reduceDiv,reduceMod,↓reduceIte,reduceEqDiff,Nat.reduceBEq,reduceSub,Nat.reduceLT,reduceAdd,reduceLeDiff,reduceCtorEq,Int.reduceEq,Int.reduceNe,Int.reduceLT,Int.reduceLE,Int.reduceToNat]
   have hcat:=congrArg List.length cat
   rw [List.length_append] at hcat
   have hl3:(fewL l ++ fewL m).length=(fewL l).length+(fewL m).length:=List.length_append
   refine ⟨by omega,by omega,sh1,sh2,⟨by simp only [lenOk]; omega,by simp only [bytesOk]; omega⟩,⟨by simp only [lenOk]; omega,by simp only [bytesOk]; omega⟩,sh3,by (first | omega | (simp only [lenOk,bytesOk,inI,IntKind.bits,List.length_append,Bs_len,List.length_cons,List.length_nil,List.length_map,List.length_take,List.length_drop,List.length_replicate]; omega)),⟨by omega,by omega⟩,by (first | omega | (simp only [lenOk,bytesOk,inI,IntKind.bits,List.length_append,Bs_len,List.length_cons,List.length_nil,List.length_map,List.length_take,List.length_drop,List.length_replicate]; omega)),⟨by omega,by omega⟩,by simp only [lenOk]; omega,by (first | omega | (simp only [lenOk,bytesOk,inI,IntKind.bits,List.length_append,Bs_len,List.length_cons,List.length_nil,List.length_map,List.length_take,List.length_drop,List.length_replicate]; omega)),⟨by omega,by omega⟩,by omega,by omega,?_,by (first | omega | (simp only [lenOk,bytesOk,inI,IntKind.bits,List.length_append,Bs_len,List.length_cons,List.length_nil,List.length_map,List.length_take,List.length_drop,List.length_replicate]; omega)),?_⟩
   ·rw [cnt]; simp only [inI,IntKind.bits]; omega
   ·rw [cnt,decide_eq_true (by omega)]
  ·rcases Bool.eq_false_or_eq_true (allW (fewL l)) with hk1 | hk1
   ·have hk2:allW (fewL m)=false:=by
     rcases Bool.eq_false_or_eq_true (allW (fewL m)) with h | h
     ·exact absurd ⟨hk1,h⟩ hk
     ·exact h
    simp only [c_lpj,r_lpj,few12S,kinds12S,known12S,pwriteS,k1,k2,k3,k4,hk1,hk2,List.length_map,↓flx_Bk,go_sem,reduceDiv,reduceMod,↓reduceIte,reduceEqDiff,Nat.reduceBEq,reduceSub,Nat.reduceLT,reduceAdd,reduceLeDiff,reduceCtorEq,Int.reduceEq,Int.reduceNe,Int.reduceLT,Int.reduceLE,Int.reduceToNat]
    exact ⟨by omega,by omega⟩
   ·simp only [c_lpj,r_lpj,few12S,kinds12S,known12S,pwriteS,k1,k2,k3,k4,hk1,List.length_map,go_sem,reduceDiv,reduceMod,↓reduceIte,reduceEqDiff,Nat.reduceBEq,reduceSub,Nat.reduceLT,reduceAdd,reduceLeDiff,reduceCtorEq,Int.reduceEq,Int.reduceNe,Int.reduceLT,Int.reduceLE,Int.reduceToNat]
    omega
 ·cases hs
theorem packJoins_walk {v0 v1:Value} (w:World) (w0:ThArg w v0) (w1:ThArg w v1) (g:GlobOk w (fun b=>b<w.heap.size)) :
  Calls Tryd.prog 3 #[v0,v1] w fun e w' => e=.returned (.bool true)∧Below w.heap.size w w' := by
 obtain ⟨l,hl⟩:=w0
 obtain ⟨m,hm⟩:=w1
 exact pj_ok.calls_bool (xs:=[.sl 2 (l.map itV),.sl 2 (m.map itV)]) rfl ⟨by rw [unIts_it],by rw [unIts_it]⟩ rfl (args_cons (hl rho0) (args_cons (hm rho0) (args_nil g)))
end Go.Proofs.YtakolikdebfkeaaDoor
