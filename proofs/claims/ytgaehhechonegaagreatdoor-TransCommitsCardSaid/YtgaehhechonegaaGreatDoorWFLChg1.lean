import Derived.Test.YtgaehhechonegaaGreatDoorWFRight
import Derived.Test.YtgaehhechonegaaGreatDoorWFTrn1
open Nat (reduceDiv reduceMod reduceSub reduceAdd reduceLeDiff reduceEqDiff)
set_option linter.all false
namespace Go.Proofs.YtgaehhechonegaaGreatDoor
open Go.RowKit
open Go.Lib (index hasPrefix cut indexAny itoa)
def exCut (x:ExL):ExL:=(x.1.take 150,x.2.take 200)
def toH (c:ChgL):ChgL:=⟨c.man,c.user.take 200,c.time,c.zone,(c.extras.take 20).map exCut,(c.files.take 20).map (List.take 300),c.desc.take 500⟩
def cOwn (m u:List UInt8) (t z:Int) (E F:AV) (d:List UInt8):List (Nat × AV):=[(20,.blob (m.map U)),(1,.str u),(1,.int .i64 t),(1,.int .i64 z),(1,E),(1,F),(1,.str d)]
def zOwn:List (Nat × AV):=[(20,.blob (List.replicate 20 (.int .u8 0))),(1,.str []),(1,.int .i64 0),(1,.int .i64 0),(1,.con (.slice none 0 0)),(1,.con (.slice none 0 0)),(1,.str [])]
def argG (m:List Value) (ke:Nat) (es:List AV) (kf:Nat) (fs:List AV):Prop:=m=(unV m).map U∧es=(es.map unEx).map exV∧fs=(fs.map unS).map AV.str∧(ke=2∨es=[])∧kf=1
def maxH (c:ChgL):Prop:=c.man.length=20∧c.user.length≤9223372036854775807∧c.extras.length≤9223372036854775807∧(∀ x∈c.extras,x.1.length≤9223372036854775807∧x.2.length≤9223372036854775807) ∧
 c.files.length≤9223372036854775807∧(∀ f∈c.files,f.length≤9223372036854775807)∧c.desc.length≤9223372036854775807
def lgtoS:Spec:=fun xs hp=>match xs,hp with
  | [.agg [(20,.blob m),(1,.str u),(1,.int .i64 t),(1,.int .i64 z),(1,.sl ke es),(1,.sl kf fs),(1,.str d)]],[] =>
    some ⟨.agg (cOwn (toH ⟨unV m,u,t,z,es.map unEx,fs.map unS,d⟩).man (toH ⟨unV m,u,t,z,es.map unEx,fs.map unS,d⟩).user (toH ⟨unV m,u,t,z,es.map unEx,fs.map unS,d⟩).time (toH ⟨unV m,u,t,z,es.map unEx,fs.map unS,d⟩).zone
        (.own 0 (toH ⟨unV m,u,t,z,es.map unEx,fs.map unS,d⟩).extras.length) (.own 1 (toH ⟨unV m,u,t,z,es.map unEx,fs.map unS,d⟩).files.length) (toH ⟨unV m,u,t,z,es.map unEx,fs.map unS,d⟩).desc),
      [.row 78 2 (toH ⟨unV m, u, t, z, es.map unEx, fs.map unS, d⟩).extras.length ((toH ⟨unV m, u, t, z, es.map unEx, fs.map unS, d⟩).extras.map exV),
       .row 9 1 (toH ⟨unV m,u,t,z,es.map unEx,fs.map unS,d⟩).files.length ((toH ⟨unV m,u,t,z,es.map unEx,fs.map unS,d⟩).files.map AV.str)],
      argG m ke es kf fs∧maxH ⟨unV m,u,t,z,es.map unEx,fs.map unS,d⟩⟩
  | _,_=>none
theorem tk_min {α:Type} (l:List α) (k:Nat):l.take (min (l.length:Int) (k:Int)).toNat=l.take k:=by
 rcases Nat.le_total l.length k with h | h
 ·rw [List.take_of_length_le (by omega),List.take_of_length_le h]
 ·rw [show (min (l.length:Int) (k:Int)).toNat=k by omega]
theorem mapT_succ {α β:Type} (f:α→β) (l:List α) {i:Nat} (h:i<l.length):(l.take i).map f ++ [f l[i]]=(l.take (i+1)).map f:=by
 rw [List.take_add_one,List.getElem?_eq_getElem h,Option.toList_some,List.map_append,List.map_cons,List.map_nil]
set_option maxHeartbeats 4000000 in
theorem lgto_ok:FnOk Tryz.prog 18 lgtoS:=by
 refine fn_slim2 Tryz.func18 s_glto (Φ:=phiL []) phi_nil ?_
 intro xs hp r hs hp'
 unfold lgtoS at hs
 split at hs
 ·injection hs with hs; subst hs
  rename_i m u t z ke es kf fs d
  obtain ⟨⟨q1,q2,q3,q4,q5⟩,l1,l2,l3,l4,l5,l6,l7⟩:=hp'
  generalize unV m=m at *
  subst q1
  generalize es.map unEx=es at *
  subst q2
  generalize fs.map unS=fs at *
  subst q3 q5
  simp only at l1 l2 l3 l4 l5 l6 l7
  refine ⟨len_le (by kernel_rfl),?_⟩
  have tu:=tk_min u 200
  have tu:u.take (min (u.length:Int) 200).toNat=u.take 200:=tu
  have td:=tk_min d 500
  have td:d.take (min (d.length:Int) 500).toNat=d.take 500:=td
  simp only [c_glto,tu,td,List.length_map,go_sem,reduceDiv,reduceMod,↓reduceIte,reduceSub,Nat.reduceLT,reduceAdd,reduceLeDiff,reduceCtorEq,Int.reduceLE,Int.reduceToNat]
  (repeat' apply And.intro)
  all_goals first | omega | exact l1 | skip
  simp only [toH]
  generalize u.take 200=u' at *
  generalize d.take 500=d' at *
  refine loop2P [(4228,78,2),(4229,9,1)] [1,2,3,4] [0,1,2,3,4] (fun i:Nat=>⟨[(1,.ref 0 0 0),(2,.ref 1 0 0),(3,.ref 2 0 0),(4,.int .i64 (i:Int))],
   [.cells 49 [(20,.blob (m.map U)),(1,.str u),(1,.int .i64 t),(1,.int .i64 z),(1,.sl ke (es.map exV)),(1,.sl 1 (fs.map AV.str)),(1,.str d)],.cells 40 zOwn,.cells 40 (cOwn m u' t z (.own 3 i) (.own 4 0) d'),.row 78 2 i (((es.take i).map exCut).map exV),.row 9 1 0 []]⟩)
   (fun i=>i≤es.length∧i≤20) (fun i=>20 - i) 0 (by rfl) ⟨Nat.zero_le _,Nat.zero_le _⟩ ⟨rfl,by rfl⟩ (fun i hi R hR=>?_)
  obtain ⟨i1,i2⟩:=hi
  by_cases hil:i<es.length∧i<20
  ·obtain ⟨hil,hi20⟩:=hil
   have c1:decide ((i:Int)<(es.length:Int))=true:=decide_eq_true (by omega)
   have c2:decide ((i:Int)<20)=true:=decide_eq_true (by omega)
   have hk:ke=2:=q4.resolve_right (by intro h; have:=congrArg List.length h; simp at this; rw [this] at hil; simp at hil)
   subst hk
   have hget:=getD_map exV es ([],[]) (.agg [(1,(.str [])),(1,(.str []))]) hil
   have hga:es.getD i ([],[])=es[i]:=by simp [List.getD_eq_getElem?_getD,List.getElem?_eq_getElem hil]
   obtain ⟨x1,x2⟩:=l4 es[i] (List.getElem_mem _)
   have t1:=tk_min es[i].1 150
   have t1:es[i].1.take (min (es[i].1.length:Int) 150).toNat=es[i].1.take 150:=t1
   have t2:=tk_min es[i].2 200
   have t2:es[i].2.take (min (es[i].2.length:Int) 200).toNat=es[i].2.take 200:=t2
   have hlen:(((es.take i).map exCut).map exV ++ [AV.agg [(1,AV.str (es[i].1.take 150)),(1,AV.str (es[i].2.take 200))]]).length=i+1:=by simp; omega
   have hsn:((es.take i).map exCut).map exV ++ [AV.agg [(1,AV.str (es[i].1.take 150)),(1,AV.str (es[i].2.take 200))]]=((es.take (i+1)).map exCut).map exV:=by
    rw [← mapT_succ exCut es hil,List.map_append]; rfl
   simp only [b_glto_0,cOwn,zOwn,c1,c2,hget,hga,exV,t1,t2,Int.toNat_natCast,List.length_map,go_sem,reduceDiv,reduceMod,↓reduceIte,reduceSub,Nat.reduceLT,reduceAdd,reduceLeDiff,reduceCtorEq,Int.reduceLE,Int.reduceToNat]
   (repeat' apply And.intro)
   all_goals first | omega | (rw [hlen]; (first | omega | (simp only [lenOk,bytesOk]; omega))) | skip
   refine hR _ (i+1) ⟨by omega,by omega⟩ (by omega) ?_
   rw [hsn]; rfl
  ·have e:es.take i=es.take 20:=by
    rcases Nat.lt_or_ge i es.length with h | h
    ·rw [show i=20 by omega]
    ·rw [List.take_of_length_le h,List.take_of_length_le (by omega)]
   have el:((es.take 20).map exCut).length=i:=by rw [List.length_map,List.length_take]; omega
   have hcc:decide ((i:Int)<(es.length:Int))=false∨(decide ((i:Int)<(es.length:Int))=true∧decide ((i:Int)<20)=false):=by
    rcases Nat.lt_or_ge i es.length with h | h
    ·exact .inr ⟨decide_eq_true (by omega),decide_eq_false (by omega)⟩
    ·exact .inl (decide_eq_false (by omega))
   rw [el,e]
   have hel:((fs.take 20).map (List.take 300)).length=min fs.length 20:=by rw [List.length_map,List.length_take]; omega
   rw [hel]
   rcases hcc with c1 | ⟨c1,c2⟩
   all_goals (
    first
     | simp only [b_glto_0,t_glto_1,cOwn,zOwn,c1,c2,List.length_map,go_sem,reduceDiv,reduceMod,↓reduceIte,reduceSub,reduceAdd,reduceLeDiff,reduceCtorEq]
     | simp only [b_glto_0,t_glto_1,cOwn,zOwn,c1,List.length_map,go_sem,reduceDiv,reduceMod,↓reduceIte,reduceSub,reduceAdd,reduceLeDiff,reduceCtorEq]
    refine loop2P [] [1,2,3,6] [0,1,2,3,4] (fun j:Nat=>⟨[(1,.ref 0 0 0),(2,.ref 1 0 0),(3,.ref 2 0 0),(6,.int .i64 (j:Int))],
     [.cells 49 [(20,.blob (m.map U)),(1,.str u),(1,.int .i64 t),(1,.int .i64 z),(1,.sl ke (es.map exV)),(1,.sl 1 (fs.map AV.str)),(1,.str d)],.cells 40 zOwn,.cells 40 (cOwn m u' t z (.own 3 i) (.own 4 j) d'),.row 78 2 i (((es.take 20).map exCut).map exV),.row 9 1 j (((fs.take j).map (List.take 300)).map AV.str)]⟩)
     (fun j=>j≤fs.length∧j≤20) (fun j=>20 - j) 0 (by rfl) ⟨Nat.zero_le _,Nat.zero_le _⟩ ⟨rfl,by rfl⟩ (fun j hj R2 hR2=>?_)
    obtain ⟨j1,j2⟩:=hj
    by_cases hjl:j<fs.length∧j<20
    ·obtain ⟨hjl,hj20⟩:=hjl
     have d1:decide ((j:Int)<(fs.length:Int))=true:=decide_eq_true (by omega)
     have d2:decide ((j:Int)<20)=true:=decide_eq_true (by omega)
     have hget:=getD_map AV.str fs [] (.str []) hjl
     have hga:fs.getD j []=fs[j]:=by simp [List.getD_eq_getElem?_getD,List.getElem?_eq_getElem hjl]
     have x1:=l6 fs[j] (List.getElem_mem _)
     have t1:=tk_min fs[j] 300
     have t1:fs[j].take (min (fs[j].length:Int) 300).toNat=fs[j].take 300:=t1
     have hlen:(((fs.take j).map (List.take 300)).map AV.str ++ [AV.str (fs[j].take 300)]).length=j+1:=by simp; omega
     have hsn:((fs.take j).map (List.take 300)).map AV.str ++ [AV.str (fs[j].take 300)]=((fs.take (j+1)).map (List.take 300)).map AV.str:=by
      rw [← mapT_succ (List.take 300) fs hjl,List.map_append]; rfl
     simp only [b_glto_1,cOwn,zOwn,d1,d2,hget,hga,t1,Int.toNat_natCast,List.length_map,go_sem,reduceDiv,reduceMod,↓reduceIte,reduceSub,Nat.reduceLT,reduceAdd,reduceLeDiff,reduceCtorEq,Int.reduceLE,Int.reduceToNat]
     (repeat' apply And.intro)
     all_goals first | omega | (rw [hlen]; (first | omega | (simp only [lenOk,bytesOk]; omega))) | skip
     refine hR2 _ (j+1) ⟨by omega,by omega⟩ (by omega) ?_
     rw [hsn]; rfl
    ·have e2:fs.take j=fs.take 20:=by
      rcases Nat.lt_or_ge j fs.length with h | h
      ·rw [show j=20 by omega]
      ·rw [List.take_of_length_le h,List.take_of_length_le (by omega)]
     have ej:min fs.length 20=j:=by omega
     have hdd:decide ((j:Int)<(fs.length:Int))=false∨(decide ((j:Int)<(fs.length:Int))=true∧decide ((j:Int)<20)=false):=by
      rcases Nat.lt_or_ge j fs.length with h | h
      ·exact .inr ⟨decide_eq_true (by omega),decide_eq_false (by omega)⟩
      ·exact .inl (decide_eq_false (by omega))
     rw [ej,e2]
     rcases hdd with d1 | ⟨d1,d2⟩
     ·simp only [b_glto_1,t_glto_0,r_glto,cOwn,zOwn,d1,List.length_map,go_sem,reduceDiv,reduceMod,↓reduceIte,reduceEqDiff,Nat.reduceBEq,reduceSub,reduceAdd,reduceLeDiff,reduceCtorEq]
     ·simp only [b_glto_1,t_glto_0,r_glto,cOwn,zOwn,d1,d2,List.length_map,go_sem,reduceDiv,reduceMod,↓reduceIte,reduceEqDiff,Nat.reduceBEq,reduceSub,reduceAdd,reduceLeDiff,reduceCtorEq])
 ·cases hs
def lgofS:Spec:=fun xs hp=>match xs,hp with
 | [.agg [(20,.blob m),(1,.str u),(1,.int .i64 t),(1,.int .i64 z),(1,.sl ke es),(1,.sl kf fs),(1,.str d)]],[] =>
  some ⟨.agg (cOwn (unV m) u t z (.own 0 (es.map unEx).length) (.own 1 1) d),[.row 63 2 (es.map unEx).length ((es.map unEx).map exV),.row 9 1 1 ((fs.map unS).map AV.str)],
   argG m ke es kf fs∧(unV m).length=20∧es.length≤1000000∧fs.length≤1000000⟩
 | _,_=>none
set_option maxHeartbeats 4000000 in
theorem lgof_ok:FnOk Tryz.prog 15 lgofS:=by
 refine fn_slim2 Tryz.func15 s_glof (Φ:=phiL []) phi_nil ?_
 intro xs hp r hs hp'
 unfold lgofS at hs
 split at hs
 ·injection hs with hs; subst hs
  rename_i m u t z ke es kf fs d
  obtain ⟨⟨q1,q2,q3,q4,q5⟩,l1,l2,l3⟩:=hp'
  generalize unV m=m at *
  subst q1
  generalize es.map unEx=es at *
  subst q2
  generalize fs.map unS=fs at *
  subst q3 q5
  rw [List.length_map] at l2 l3
  refine ⟨len_le (by kernel_rfl),?_⟩
  simp only [c_glof,go_sem,reduceDiv,reduceMod,↓reduceIte,reduceSub,reduceAdd,reduceLeDiff,reduceCtorEq]
  refine ⟨l1,?_⟩
  refine loop2P [(4228,63,2),(4229,9,1)] [1,2,3,4] [0,1,2,3,4] (fun i:Nat=>⟨[(1,.ref 0 0 0),(2,.ref 1 0 0),(3,.ref 2 0 0),(4,.int .i64 (i:Int))],
   [.cells 40 [(20,.blob (m.map U)),(1,.str u),(1,.int .i64 t),(1,.int .i64 z),(1,.sl ke (es.map exV)),(1,.sl 1 (fs.map AV.str)),(1,.str d)],.cells 49 zOwn,.cells 49 (cOwn m u t z (.own 3 i) (.own 4 0) d),.row 63 2 i ((es.take i).map exV),.row 9 1 0 []]⟩)
   (fun i=>i≤es.length) (fun i=>es.length - i) 0 (by rfl) (Nat.zero_le _) ⟨rfl,by rfl⟩ (fun i hi R hR=>?_)
  by_cases hil:i<es.length
  ·have c1:decide ((i:Int)<(es.length:Int))=true:=decide_eq_true (by omega)
   have hk:ke=2:=q4.resolve_right (by intro h; have:=congrArg List.length h; simp at this; rw [this] at hil; simp at hil)
   subst hk
   have hget:=getD_map exV es ([],[]) (.agg [(1,(.str [])),(1,(.str []))]) hil
   have hga:es.getD i ([],[])=es[i]:=by simp [List.getD_eq_getElem?_getD,List.getElem?_eq_getElem hil]
   have hlen:((es.take i).map exV ++ [AV.agg [(1,AV.str es[i].1),(1,AV.str es[i].2)]]).length=i+1:=by simp; omega
   have hsn:(es.take i).map exV ++ [AV.agg [(1,AV.str es[i].1),(1,AV.str es[i].2)]]=(es.take (i+1)).map exV:=mapT_succ exV es hil
   simp only [b_glof_0,cOwn,zOwn,c1,hget,hga,exV,Int.toNat_natCast,List.length_map,go_sem,reduceDiv,reduceMod,↓reduceIte,reduceSub,Nat.reduceLT,reduceAdd,reduceLeDiff,reduceCtorEq]
   (repeat' apply And.intro)
   all_goals first | omega | (rw [hlen]; (first | omega | (simp only [lenOk,bytesOk]; omega))) | skip
   refine hR _ (i+1) hil (by omega) ?_
   rw [hsn]; rfl
  ·have c1:decide ((i:Int)<(es.length:Int))=false:=decide_eq_false (by omega)
   obtain rfl:i=es.length:=by omega
   rw [List.take_length]
   simp only [b_glof_0,t_glof_0,r_glof,cOwn,zOwn,c1,List.length_map,go_sem,reduceDiv,reduceMod,↓reduceIte,reduceEqDiff,Nat.reduceBEq,reduceSub,reduceAdd,reduceLeDiff,reduceCtorEq]
   (repeat' apply And.intro)
   all_goals first | omega | (first | omega | (simp only [lenOk,bytesOk]; omega)) | rfl | skip
 ·cases hs
end Go.Proofs.YtgaehhechonegaaGreatDoor
namespace Go.Proofs.YtgaehhechonegaaGreatDoor
open Go.RowKit
open Go.Lib (index hasPrefix cut indexAny itoa decDigits)
theorem flat_By (l:List UInt8):∀ x,x∈Bs l→flatB 4 x=true:=by
 intro x hx
 obtain ⟨u,_,rfl⟩:=List.mem_map.1 hx
 rfl
theorem flx_by (l:List UInt8):(∀ x∈Bs l,flatB 4 x=true)=True:=eq_true (flat_By l)
theorem flx_of {α:Type} (l:List α) (f:α→AV) (h:∀ a,flatB 4 (f a)=true):∀ x∈l.map f,flatB 4 x=true:=fun x hx=>by
 obtain ⟨u,_,rfl⟩:=List.mem_map.1 hx; exact h u
end Go.Proofs.YtgaehhechonegaaGreatDoor
namespace Go.Proofs.YtgaehhechonegaaGreatDoor
open Go.RowKit
open Go.Lib (index hasPrefix cut indexAny itoa decDigits)
def chgB9 (c:ChgL):Prop:=c.man.length=20∧c.user.length≤9223372036854775807∧inI c.time∧inI c.zone∧c.extras.length≤9223372036854775807∧(∀ x∈c.extras,x.1.length≤9223372036854775807∧x.2.length≤9223372036854775807) ∧
 c.files.length≤9223372036854775807∧(∀ f∈c.files,f.length≤9223372036854775807)∧c.desc.length≤9223372036854775807
theorem max_of {c:ChgL} (h:chgB9 c):maxH c:=by
 obtain ⟨h1,h2,h3,h4,h5,h6,h7,h8,h9⟩:=h
 exact ⟨h1,h2,h5,h6,h7,h8,h9⟩
theorem sum_le (l:List (List UInt8)) (k:Nat) (h:∀ x∈l,x.length≤k):sumL l≤k * l.length:=by
 induction l with
 | nil=>simp [sumL]
 | cons x l ih =>
  have h1:=h x (List.mem_cons_self ..)
  have h2:=ih fun y hy=>h y (List.mem_cons_of_mem _ hy)
  simp only [sumL,List.map_cons,List.sum_cons,List.length_cons] at h2 ⊢
  rw [Nat.mul_add,Nat.mul_one]; omega
theorem exT_le (x:ExL):(exT x).length≤x.1.length+2 * x.2.length+1:=by
 have:=tol_len x.2
 unfold exT
 rw [List.length_append,List.length_cons]; omega
theorem exsT_le (es:List ExL) (k:Nat) (h:∀ x∈es,x.1.length+2 * x.2.length+2≤k):(exsT es).length≤k * es.length:=by
 cases es with
 | nil=>simp [exsT]
 | cons y es =>
  have hf:∀ l:List ExL,(∀ x∈l,x.1.length+2 * x.2.length+2≤k)→((l.map exT).flatMap ((0:UInt8) :: ·)).length≤k * l.length:=by
   intro l
   induction l with
   | nil=>intro _; simp
   | cons z l ih =>
    intro hl
    have h1:=hl z (List.mem_cons_self ..)
    have h2:=ih fun y hy=>hl y (List.mem_cons_of_mem _ hy)
    have h3:=exT_le z
    simp only [List.map_cons,List.flatMap_cons,List.length_append,List.length_cons]
    rw [Nat.mul_add,Nat.mul_one]; omega
  have h1:=h y (List.mem_cons_self ..)
  have h2:=hf es fun y hy=>h y (List.mem_cons_of_mem _ hy)
  have h3:=exT_le y
  simp only [exsT,joinB,List.map_cons,List.length_append,List.length_cons]
  rw [Nat.mul_add,Nat.mul_one]; omega
theorem toH_size (c:ChgL) (h:chgB9 c):sizeH (toH c)∧(bodyH (toH c)).length≤100000:=by
 obtain ⟨h1,h2,h3,h4,h5,h6,h7,h8,h9⟩:=h
 have u1:(toH c).user.length≤200:=by simp only [toH,List.length_take]; omega
 have d1:(toH c).desc.length≤500:=by simp only [toH,List.length_take]; omega
 have e1:(toH c).extras.length≤20:=by simp only [toH,List.length_map,List.length_take]; omega
 have f1:(toH c).files.length≤20:=by simp only [toH,List.length_map,List.length_take]; omega
 have e2:∀ x∈(toH c).extras,x.1.length≤150∧x.2.length≤200:=by
  intro x hx
  obtain ⟨y,_,rfl⟩:=List.mem_map.1 hx
  simp only [exCut,List.length_take]; omega
 have f2:∀ f∈(toH c).files,f.length≤300:=by
  intro f hf
  obtain ⟨y,_,rfl⟩:=List.mem_map.1 hf
  simp only [List.length_take]; omega
 have m1:(toH c).man.length=20:=h1
 have t1:inI (toH c).time:=h3
 have z1:inI (toH c).zone:=h4
 generalize toH c=d at *
 have g1:=exsT_le d.extras 552 fun x hx=>by have:=e2 x hx; omega
 have g2:=sum_le d.files 300 f2
 have g3:552 * d.extras.length≤552 * 20:=Nat.mul_le_mul_left _ e1
 have g4:300 * d.files.length≤300 * 20:=Nat.mul_le_mul_left _ f1
 have l1:=Lib.itoa_length_le d.time t1.1 t1.2
 have l2:=Lib.itoa_length_le d.zone z1.1 z1.2
 have hh:=hexL_length d.man
 have hb:=body_len d
 have hd:(dateT d).length=(itoa d.time).length+(1+((itoa d.zone).length+(exsT d.extras).length)):=by
  unfold dateT; simp only [List.length_append,List.length_cons]; omega
 refine ⟨⟨m1,by omega,by omega,by omega,fun x hx=>?_,fun f hf=>?_,by omega,by omega,by omega,t1,z1⟩,by omega⟩
 ·have:=e2 x hx; omega
 ·have:=f2 f hf; omega
theorem gprnR_t {c:ChgL} (h:rightH c=true) (pr:Prop):gprnR c pr=some ⟨.tup [.own 0 0,.int .i64 0],[.row 5 1 0 (Bs (bodyH c))],pr⟩:=by
 unfold gprnR; rw [if_pos h]
theorem gprnR_f {c:ChgL} (h:rightH c=false) (pr:Prop):gprnR c pr=some ⟨.tup [.con (.slice none 0 0),.int .i64 4],[],pr⟩:=by
 unfold gprnR; rw [h]; rfl
end Go.Proofs.YtgaehhechonegaaGreatDoor
namespace Go.Proofs.YtgaehhechonegaaGreatDoor
open Go.RowKit
open Go.Lib (index hasPrefix trimPrefix cut indexAny itoa)
theorem exTx_w (x:ExL):(exT x).length+1≤2 * (x.1.length+x.2.length+2):=by
 have:=tol_len x.2
 unfold exT; simp only [List.length_append,List.length_cons]; omega
theorem flatEx_w:∀ es:List ExL,((es.map exT).flatMap ((0:UInt8) :: ·)).length≤2 * wExt es
 | []=>by simp
 | x :: es=>by
  have:=flatEx_w es
  have h:=exTx_w x
  simp only [wExt,List.map_cons,List.sum_cons,List.flatMap_cons,List.length_append,List.length_cons] at this ⊢; omega
theorem exsTx_w:∀ es:List ExL,(exsT es).length≤2 * wExt es
 | []=>by simp [exsT]
 | x :: es=>by
  have:=flatEx_w es
  have h:=exTx_w x
  simp only [exsT,joinB,wExt,List.map_cons,List.sum_cons,List.length_append,List.length_cons] at this ⊢; omega
theorem cutY {m:List UInt8} (c:UInt8) (h:m≠[]):(cut m [c]).1.length+2+3 * (cut m [c]).2.1.length≤3 * m.length∧(cut m [c]).2.1.length<m.length:=by
 have hm:=List.length_pos_iff.2 h
 cases hc:(cut m [c]).2.2 with
 | true =>
  have e:=congrArg List.length (cut1_t hc)
  simp only [List.length_append,List.length_cons] at e; omega
 | false=>rw [(cut_f hc).1,(cut_f hc).2]; simp only [List.length_nil]; omega
theorem cutY2 (o:List UInt8) (c:UInt8):(cut o [c]).1.length+(cut o [c]).2.1.length≤o.length:=by
 cases hc:(cut o [c]).2.2 with
 | true =>
  have e:=congrArg List.length (cut1_t hc)
  simp only [List.length_append,List.length_cons] at e; omega
 | false=>rw [(cut_f hc).1,(cut_f hc).2]; simp
theorem nmV_tr (s:List UInt8):inI (nmV s):=by
 have h1:=decN_lt s
 have h2:=decN_lt (s.drop 1)
 unfold nmV inI
 split <;> constructor <;> omega
theorem cont1_wx (acc:List ExL) (v:List UInt8) (h:acc≠[]):wExt (cont1 acc v)=wExt acc+v.length+1∧(cont1 acc v).length=acc.length:=by
 obtain ⟨a,x,rfl⟩:∃ a x,acc=a ++ [x]:=⟨acc.dropLast,acc.getLast h,(List.dropLast_concat_getLast h).symm⟩
 obtain ⟨k,w⟩:=x
 rw [cont1_app,wExt_app,wExt_app]
 have e:∀ u:List UInt8,wExt [(k,u)]=k.length+u.length+2:=fun u=>by simp [wExt]
 rw [e,e]
 refine ⟨?_,?_⟩ <;>
 simp only [List.length_append,List.length_cons,List.length_nil]
 omega
noncomputable def tspkS0:Spec:=fun xs hp=>match xs,hp with
 | [.str s,.str d],[]=>some ⟨.tup [.agg [(20,.blob (zr20.map U)),(1,.str (spkC s d).user),(1,.int .i64 (spkC s d).time),(1,.int .i64 (spkC s d).zone),(1,.own 0 (spkC s d).extras.length),(1,.con (.slice none 0 0)),(1,.str d)],.bool (spkB s d)],
   [.row 78 2 (spkC s d).extras.length ((spkC s d).extras.map exV)],s.length≤90000∧d.length≤90000⟩
 | _,_=>none
noncomputable def phiTS:Phi:=phiL [(82,[],cutS),(83,[],tnumS),(84,[],hasPreS),(36,[],gprnS),(67,[],twordsS)]
theorem phiTS_ok:PhiOk Tryz.prog phiTS:=phi_cons cut_ok (by kernel_rfl) (phi_cons tnum_ok (by kernel_rfl) (phi_cons hasPre_ok (by kernel_rfl) (phi_cons gprn_ok (by kernel_rfl) (phi_cons twords_ok (by kernel_rfl) phi_nil))))
theorem phiTS_1:phiTS 82=some ([],cutS):=rfl
theorem phiTS_2:phiTS 83=some ([],tnumS):=rfl
theorem phiTS_3:phiTS 84=some ([],hasPreS):=rfl
theorem phiTS_4:phiTS 36=some ([],gprnS):=rfl
theorem phiTS_5:phiTS 67=some ([],twordsS):=rfl
def chgN (u:List UInt8) (t z:Int) (E:AV) (d:List UInt8):List (Nat × AV):=[(20,.blob (zr20.map U)),(1,.str u),(1,.int .i64 t),(1,.int .i64 z),(1,E),(1,.con (.slice none 0 0)),(1,.str d)]
set_option maxHeartbeats 8000000 in
theorem tspk0_ok:FnOk Tryz.prog 54 tspkS0:=by
 refine fn_slim2 Tryz.func54 s_tspk phiTS_ok ?_
 intro xs hp r hs hp'
 unfold tspkS0 at hs
 split at hs
 ·rename_i s d
  injection hs with hs; subst hs
  obtain ⟨p1,p2⟩:=hp'
  refine ⟨len_le (by kernel_rfl),?_⟩
  have a1:=cutY2 s 10
  have a2:=cutY2 (cut s [10]).2.1 10
  have a3:=cutY2 (cut (cut s [10]).2.1 [10]).1 32
  have hsp:spkC s d=⟨zr20,(s1 s).1,nmV (s3 s).1,nmV (s3 s).2.1,spG ((s2 s).2.1.length+1) (s2 s).2.1 [],[],d⟩:=rfl
  have hflag:(s1 s).2.2=false∨(s2 s).2.2=false∨(s3 s).2.2=false→spkB s d=false:=by
   intro h
   cases hb:spkB s d with
   | false=>rfl
   | true =>
    obtain ⟨-,-,g1,g2,g3⟩:=spk_flags hb
    rw [g1,g2,g3] at h
    rcases h with h | h | h <;> cases h
  simp only [c_tspk,phiTS_1,phiTS_2,cutS,tnumS,go_sem,reduceDiv,reduceMod,↓reduceIte,reduceSub,Nat.reduceLT,reduceAdd,reduceLeDiff,reduceCtorEq]
  refine ⟨by omega,by omega,by omega,by omega,by omega,?_⟩
  have b1:(s1 s).1.length≤90000:=by unfold s1; omega
  have b2:(s2 s).2.1.length≤90000:=by unfold s2 s1; omega
  have b4:=nmV_tr (s3 s).1
  have b5:=nmV_tr (s3 s).2.1
  refine loop2P (m:=0) [(4164,78,2)] [0,4,7,8,10,13,14] [0,1,2] (fun q:List ExL × List UInt8=>⟨[(0,.str s),(4,.ref 0 0 0),(7,.str q.2),(8,.bool (s1 s).2.2),(10,.bool (s2 s).2.2),(13,.bool (s3 s).2.2),(14,.ref 1 0 0)],
   [.cells 40 (chgN [] 0 0 (.con (.slice none 0 0)) []),.cells 40 (chgN (s1 s).1 (nmV (s3 s).1) (nmV (s3 s).2.1) (.own 2 q.1.length) d),.row 78 2 q.1.length (q.1.map exV)]⟩)
   (fun q=>(∃ f,q.2.length<f∧spG f q.2 q.1=spG ((s2 s).2.1.length+1) (s2 s).2.1 [])∧wExt q.1+3 * q.2.length≤270000∧q.1.length+q.2.length≤90000) (fun q=>q.2.length) ([],(s2 s).2.1) (by rfl) ⟨⟨_,Nat.lt_succ_self _,rfl⟩,by simp only [wExt,List.map_nil,List.sum_nil]; omega,by simp only [List.length_nil]; omega⟩ ⟨rfl,by rfl⟩ (fun q hq R hR=>?_)
  clear a1 a2 a3
  generalize (s2 s).2.1=N at *
  generalize nmV (s3 s).1=t at *
  generalize nmV (s3 s).2.1=z at *
  generalize (s1 s).1=u at *
  generalize (s1 s).2.2=k1 at *
  generalize (s2 s).2.2=k2 at *
  generalize (s3 s).2.2=k3 at *
  obtain ⟨acc,w⟩:=q
  simp only at hq hR ⊢
  obtain ⟨⟨f,f1,f2⟩,f3,f4⟩:=hq
  cases h1:decide (w=[]) with
  | false =>
   have h1' := of_decide_eq_false h1
   obtain ⟨w1,w2⟩:=cutY 10 h1'
   have w3:=cutY2 w 10
   have w4:=cutY2 (cut w [10]).1 32
   obtain ⟨k,rfl⟩:∃ k,f=k+1:=⟨f - 1,by omega⟩
   rw [spG,if_neg h1'] at f2
   have hal:∀ x,(acc.map exV ++ [x]).length=acc.length+1:=by intro x; simp
   have hal2:∀ x,(acc ++ [x]).length=acc.length+1:=by intro x; simp
   by_cases hacc:acc=[]
   ·have ha0:acc.length=0:=by rw [hacc]; rfl
    have c1:decide ((0:Int)≤(acc.length:Int) - 1)=false:=decide_eq_false (by omega)
    rw [if_neg (fun h=>h.2 hacc)] at f2
    simp only [b_tspk_0,chgN,h1,c1,phiTS_1,cutS,go_sem,reduceDiv,reduceMod,↓reduceIte,reduceSub,Nat.reduceLT,reduceAdd,reduceLeDiff,reduceCtorEq]
    (repeat' apply And.intro)
    all_goals first | omega | (rw [hal]; (first | omega | (simp only [lenOk,bytesOk]; omega))) | (first | omega | (simp only [lenOk,bytesOk,inI,IntKind.bits,List.length_append,Bs_len,List.length_cons,List.length_nil,List.length_map,List.length_take,List.length_drop,List.length_replicate]; omega)) | skip
    refine hR _ (acc ++ [((cut (cut w [10]).1 [32]).1,(cut (cut w [10]).1 [32]).2.1)],(cut w [10]).2.1) ⟨⟨k,by simp only; omega,f2⟩,by simp only [wExt_app]; simp only [wExt,List.map_cons,List.map_nil,List.sum_cons,List.sum_nil] at f3 ⊢; omega,by simp only [hal2]; omega⟩ (by simp only; omega) ?_
    simp only [hal2,List.map_append,List.map_cons,List.map_nil]; rfl
   ·have ha0:0<acc.length:=List.length_pos_iff.2 hacc
    have c1:decide ((0:Int)≤(acc.length:Int) - 1)=true:=decide_eq_true (by omega)
    cases hpre:hasPrefix (cut w [10]).1 [32] with
    | false =>
     rw [if_neg (fun h=>by rw [hpre] at h; cases h.1)] at f2
     simp only [b_tspk_0,chgN,h1,c1,hpre,phiTS_1,phiTS_3,cutS,hasPreS,go_sem,reduceDiv,reduceMod,↓reduceIte,reduceSub,Nat.reduceLT,reduceAdd,reduceLeDiff,reduceCtorEq]
     (repeat' apply And.intro)
     all_goals first | omega | (rw [hal]; (first | omega | (simp only [lenOk,bytesOk]; omega))) | (first | omega | (simp only [lenOk,bytesOk,inI,IntKind.bits,List.length_append,Bs_len,List.length_cons,List.length_nil,List.length_map,List.length_take,List.length_drop,List.length_replicate]; omega)) | skip
     refine hR _ (acc ++ [((cut (cut w [10]).1 [32]).1,(cut (cut w [10]).1 [32]).2.1)],(cut w [10]).2.1) ⟨⟨k,by simp only; omega,f2⟩,by simp only [wExt_app]; simp only [wExt,List.map_cons,List.map_nil,List.sum_cons,List.sum_nil] at f3 ⊢; omega,by simp only [hal2]; omega⟩ (by simp only; omega) ?_
     simp only [hal2,List.map_append,List.map_cons,List.map_nil]; rfl
    | true =>
     rw [if_pos ⟨hpre,hacc⟩] at f2
     obtain ⟨q,hq⟩:=pre_iff.1 hpre
     have hol:0<(cut w [10]).1.length:=by rw [hq]; simp
     have e2:((acc.length:Int) - 1).toNat=acc.length - 1:=by omega
     have hget2:=getD_map exV acc ([],[]) (AV.agg [(1,AV.str []),(1,AV.str [])]) (show acc.length - 1<acc.length by omega)
     have hga2:acc.getD (acc.length - 1) ([],[])=acc[acc.length - 1]'(by omega):=by simp [List.getD_eq_getElem?_getD,List.getElem?_eq_getElem (show acc.length - 1<acc.length by omega)]
     have hmw:=mem_w acc (acc.getD (acc.length - 1) ([],[])) (by rw [hga2]; exact List.getElem_mem _)
     have htl:(cut w [10]).1.take (cut w [10]).1.length=(cut w [10]).1:=List.take_length
     obtain ⟨v1,v2⟩:=cont1_wx acc ((cut w [10]).1.drop 1) hacc
     rw [List.length_drop] at v1
     simp only [b_tspk_0,chgN,h1,c1,hpre,e2,hget2,exV,htl,phiTS_1,phiTS_3,cutS,hasPreS,go_sem,reduceDiv,reduceMod,↓reduceIte,reduceSub,Nat.reduceLT,reduceAdd,reduceLeDiff,reduceCtorEq,Int.reduceLE,Int.reduceToNat]
     (repeat' apply And.intro)
     all_goals first | omega | (rw [hal]; (first | omega | (simp only [lenOk,bytesOk,inI,IntKind.bits,List.length_append,Bs_len,List.length_cons,List.length_nil,List.length_map,List.length_take,List.length_drop,List.length_replicate]; omega))) | (first | omega | (simp only [lenOk,List.length_drop]; omega)) | skip
     refine hR _ (cont1 acc ((cut w [10]).1.drop 1),(cut w [10]).2.1) ⟨⟨k,by simp only; omega,f2⟩,by simp only; omega,by simp only; omega⟩ (by simp only; omega) ?_
     simp only [v2]
     unfold cont1
     rw [List.map_set]
     simp only [List.append_assoc]
     rfl
  | true =>
   have h1' := of_decide_eq_true h1
   subst h1'
   rw [spG_nil] at f2
   rw [← f2] at hsp
   have hb:spkB s d=(rightH (spkC s d) && decide (wordsT (spkC s d)=s)):=rfl
   have hel:2 * acc.length≤wExt acc:=by
    clear f2 f3 f4 hR f1 hsp hb
    induction acc with
    | nil=>exact Nat.le_refl _
    | cons x acc ih=>simp only [wExt,List.map_cons,List.sum_cons,List.length_cons] at ih ⊢; omega
   have hem:=mem_w acc
   have hes:=exsTx_w acc
   have hfx:=flat_ex acc
   simp only [List.length_nil] at f3 f4
   have l1:=Lib.itoa_length_le t b4.1 b4.2
   have l2:=Lib.itoa_length_le z b5.1 b5.2
   have hsz:sizeH ⟨zr20,u,t,z,acc,[],d⟩:=⟨rfl,by simp only; omega,by simp only; omega,by simp,fun x hx=>by have:=hem x hx; omega,fun f hf=>(by cases hf),by simp only; omega,by simp [sumL],by simp only; omega,b4,b5⟩
   have hwl:(wordsT ⟨[],u,t,z,acc,[],[]⟩).length≤1000000:=by
    unfold wordsT; simp only [List.length_append,List.length_cons]; omega
   have hwe:wordsT ⟨zr20,u,t,z,acc,[],d⟩=wordsT ⟨[],u,t,z,acc,[],[]⟩:=rfl
   rw [hsp,hwe] at hb
   rw [hsp]
   have hzT:=eq_true hsz
   cases k1 with
   | false =>
    rw [hflag (.inl rfl)]
    cases hr:rightH ⟨zr20,u,t,z,acc,[],d⟩ with
    | false =>
     have e:∀ pr,gprnR ⟨zr20,u,t,z,acc,[],d⟩ pr=_:=fun pr=>gprnR_f hr pr
     simp only [b_tspk_0,t_tspk_0,r_tspk,chgN,phiTS_4,gprnS,argH,unV_U,unEx_map,hzT,List.map_nil,e,go_sem,reduceDiv,reduceMod,↓reduceIte,reduceSub,Nat.reduceLT,reduceAdd,reduceLeDiff,reduceCtorEq]
     (repeat' apply And.intro); all_goals first | omega | rfl | trivial | exact .inl trivial | exact hsz | exact hwl | exact b4.1 | exact b4.2 | exact b5.1 | exact b5.2 | skip
    | true =>
     have e:∀ pr,gprnR ⟨zr20,u,t,z,acc,[],d⟩ pr=_:=fun pr=>gprnR_t hr pr
     simp only [b_tspk_0,t_tspk_0,r_tspk,chgN,phiTS_4,gprnS,argH,unV_U,unEx_map,hzT,List.map_nil,↓flx_by,e,go_sem,reduceDiv,reduceMod,↓reduceIte,reduceSub,Nat.reduceLT,reduceAdd,reduceLeDiff,reduceCtorEq]
     (repeat' apply And.intro); all_goals first | omega | rfl | trivial | exact .inl trivial | exact hsz | exact hwl | exact b4.1 | exact b4.2 | exact b5.1 | exact b5.2 | skip
   | true =>
   cases k2 with
   | false =>
    rw [hflag (.inr (.inl rfl))]
    cases hr:rightH ⟨zr20,u,t,z,acc,[],d⟩ with
    | false =>
     have e:∀ pr,gprnR ⟨zr20,u,t,z,acc,[],d⟩ pr=_:=fun pr=>gprnR_f hr pr
     simp only [b_tspk_0,t_tspk_0,r_tspk,chgN,phiTS_4,gprnS,argH,unV_U,unEx_map,hzT,List.map_nil,e,go_sem,reduceDiv,reduceMod,↓reduceIte,reduceSub,Nat.reduceLT,reduceAdd,reduceLeDiff,reduceCtorEq]
     (repeat' apply And.intro); all_goals first | omega | rfl | trivial | exact .inl trivial | exact hsz | exact hwl | exact b4.1 | exact b4.2 | exact b5.1 | exact b5.2 | skip
    | true =>
     have e:∀ pr,gprnR ⟨zr20,u,t,z,acc,[],d⟩ pr=_:=fun pr=>gprnR_t hr pr
     simp only [b_tspk_0,t_tspk_0,r_tspk,chgN,phiTS_4,gprnS,argH,unV_U,unEx_map,hzT,List.map_nil,↓flx_by,e,go_sem,reduceDiv,reduceMod,↓reduceIte,reduceSub,Nat.reduceLT,reduceAdd,reduceLeDiff,reduceCtorEq]
     (repeat' apply And.intro); all_goals first | omega | rfl | trivial | exact .inl trivial | exact hsz | exact hwl | exact b4.1 | exact b4.2 | exact b5.1 | exact b5.2 | skip
   | true =>
   cases k3 with
   | false =>
    rw [hflag (.inr (.inr rfl))]
    cases hr:rightH ⟨zr20,u,t,z,acc,[],d⟩ with
    | false =>
     have e:∀ pr,gprnR ⟨zr20,u,t,z,acc,[],d⟩ pr=_:=fun pr=>gprnR_f hr pr
     simp only [b_tspk_0,t_tspk_0,r_tspk,chgN,phiTS_4,gprnS,argH,unV_U,unEx_map,hzT,List.map_nil,e,go_sem,reduceDiv,reduceMod,↓reduceIte,reduceSub,Nat.reduceLT,reduceAdd,reduceLeDiff,reduceCtorEq]
     (repeat' apply And.intro); all_goals first | omega | rfl | trivial | exact .inl trivial | exact hsz | exact hwl | exact b4.1 | exact b4.2 | exact b5.1 | exact b5.2 | skip
    | true =>
     have e:∀ pr,gprnR ⟨zr20,u,t,z,acc,[],d⟩ pr=_:=fun pr=>gprnR_t hr pr
     simp only [b_tspk_0,t_tspk_0,r_tspk,chgN,phiTS_4,gprnS,argH,unV_U,unEx_map,hzT,List.map_nil,↓flx_by,e,go_sem,reduceDiv,reduceMod,↓reduceIte,reduceSub,Nat.reduceLT,reduceAdd,reduceLeDiff,reduceCtorEq]
     (repeat' apply And.intro); all_goals first | omega | rfl | trivial | exact .inl trivial | exact hsz | exact hwl | exact b4.1 | exact b4.2 | exact b5.1 | exact b5.2 | skip
   | true =>
    cases hr:rightH ⟨zr20,u,t,z,acc,[],d⟩ with
    | false =>
     have e:∀ pr,gprnR ⟨zr20,u,t,z,acc,[],d⟩ pr=_:=fun pr=>gprnR_f hr pr
     rw [hr,Bool.false_and] at hb
     rw [hb]
     simp only [b_tspk_0,t_tspk_0,r_tspk,chgN,phiTS_4,gprnS,argH,unV_U,unEx_map,hzT,List.map_nil,e,go_sem,reduceDiv,reduceMod,↓reduceIte,reduceSub,Nat.reduceLT,reduceAdd,reduceLeDiff,reduceCtorEq,Int.reduceEq]
     (repeat' apply And.intro); all_goals first | omega | rfl | trivial | exact .inl trivial | exact hsz | exact hwl | exact b4.1 | exact b4.2 | exact b5.1 | exact b5.2 | skip
    | true =>
     have e:∀ pr,gprnR ⟨zr20,u,t,z,acc,[],d⟩ pr=_:=fun pr=>gprnR_t hr pr
     rw [hr,Bool.true_and] at hb
     rw [hb]
     simp only [b_tspk_0,t_tspk_0,r_tspk,chgN,phiTS_4,phiTS_5,gprnS,twordsS,argH,unV_U,unEx_map,hzT,List.length_map,List.map_nil,↓flx_by,e,wordsOk,go_sem,reduceDiv,reduceMod,↓reduceIte,reduceSub,Nat.reduceLT,reduceAdd,reduceLeDiff,reduceCtorEq]
     (repeat' apply And.intro); all_goals first | omega | rfl | trivial | exact .inl trivial | exact hsz | exact hwl | exact b4.1 | exact b4.2 | exact b5.1 | exact b5.2 | skip
 ·cases hs
end Go.Proofs.YtgaehhechonegaaGreatDoor
namespace Go.Proofs.YtgaehhechonegaaGreatDoor
open Go.RowKit
inductive ZW (Φ:Phi) (m:Nat):ACode→(Exit→S2→Prop)→S2→Prop
 | run {c:ACode} {Q:Exit→S2→Prop} {s:S2} (Q1:Exit→S2→Prop):(∀ e s,Q1 e s→Q e s)→awp2 Φ m c Q1 s→ZW Φ m c Q s
 | seq {x y:ACode} {Q:Exit→S2→Prop} {s:S2} (K:S2→Prop):ZW Φ m x (thenQ2 K Q) s→(∀ s1,K s1→ZW Φ m y Q s1)→ZW Φ m (.seq x y) Q s
 | cond {c:Opd} {x y:ACode} {Q:Exit→S2→Prop} {s:S2} (b:Bool):(toS s).ev c=.bool b→(b=true→ZW Φ m x Q s)→(b=false→ZW Φ m y Q s)→ZW Φ m (.cond c x y) Q s
 | frz {c:ACode} {Q:Exit→S2→Prop} {s:S2} (l:List Nat) (hp:List AObj):frzH s.hp l=some hp→ZW Φ m c Q ⟨s.fr,hp⟩→ZW Φ m c Q s
 | kp {c:ACode} {Q:Exit→S2→Prop} {s:S2} (nils:List (Nat × TypeId × Nat)) (slots ids:List Nat) (s' : St):nodupB ids=true→ids.take m=List.range m→ent nils slots ids (toS s)=some s' → ZW Φ m c Q (ofS s')→ZW Φ m c Q s
section
variable {P : Program} {Φ : Phi} {F : Nat → Prop} {w0 w : World} {S0 S : Nat → Prop} {ρ0 ρ : Rho} {N m : Nat} {ds : List Deferred} {a : Act}
theorem Rel.frz {s:St} {l:List Nat} {hp:List AObj} (h:frzH s.hp l=some hp) (R:Rel F w0 S0 ρ0 N ds s a w):Rel F w0 S0 ρ0 N ds ⟨s.fr,hp⟩ a w:=by
 obtain ⟨S,ρ,R⟩:=R
 obtain ⟨S',i1,i2,i3,i4⟩:=frzH_ok l R.heap h
 have hE:Ext w w S S' ρ ρ:=⟨fun _ _=>rfl,i2,fun _ _ _ h=>h⟩
 exact ⟨S',ρ,i1,R.fr.ext hE,R.size,R.dfr,fun b hb=>(i4 b hb).elim (R.sin b) .inr,R.ext.trans hE⟩
theorem Rel.toS {s:St} {s2:S2} (h:R2 s s2) (R:Rel F w0 S0 ρ0 N ds s a w):Rel F w0 S0 ρ0 N ds (Go.Proofs.YtgaehhechonegaaGreatDoor.toS s2) a w:=by
 obtain ⟨S,ρ,R⟩:=R
 have e:s.hp=(Go.Proofs.YtgaehhechonegaaGreatDoor.toS s2).hp:=h.1
 exact ⟨S,ρ,by rw [← e]; exact R.heap,⟨R.fr.1,fun t=>by rw [← h.lk]; exact R.fr.2 t⟩,R.size,R.dfr,R.sin,R.ext⟩
theorem ZW.ok (hΦ:PhiOk P Φ) (hm0:∀ i v L,ρ0 i v=some L→i<m) {c:ACode} {Q:Exit→S2→Prop} {s2:S2} (h:ZW Φ m c Q s2):∀ (code:Code),MtC P N code c→∀ (Q' : Exit→Act→World→Prop),
  (∀ e s s2 a w,R2 s s2→Q e s2→Rel F w0 S0 ρ0 N ds s a w→Q' e a w)→∀ s a w,R2 s s2→Rel F w0 S0 ρ0 N ds s a w→code.wp P Q' a w:=by
 induction h with
 | run Q1 h1 h2 =>
  intro code hm Q' hQ s a w hR R
  exact awp_ok hΦ hm0 _ code hm (fun e s=>∃ s2,R2 s s2∧Q1 e s2) Q' (fun e s a w ⟨s2,k1,k2⟩ R=>hQ e s s2 a w k1 (h1 e s2 k2) R) s a w (awp2_ok _ _ Q1 (fun e s s2 h hq=>⟨s2,h,hq⟩) s _ hR h2) R
 | @seq x y Q s0 K hx hk ihx ihy =>
  intro code hm Q' hQ s a w hR R
  cases code <;> first | exact hm.elim | (rename_i d; cases d <;> exact hm.elim) | skip
  case seq x' y' =>
   refine wp_seq (ihx x' hm.1 _ (fun e s s2 a w h2 hq R=>?_) s a w hR R)
   cases e <;> first | exact ihy s2 hq y' hm.2 Q' hQ s a w h2 R | exact hQ _ _ _ _ _ h2 hq R
 | @cond c x y Q s0 b hb hx hy ihx ihy =>
  intro code hm Q' hQ s a w hR R
  cases code <;> first | exact hm.elim | (rename_i d; cases d <;> exact hm.elim) | skip
  case cond c' x' y' =>
   obtain ⟨rfl,h1,h2⟩:=hm
   have he:s.ev (opd c')=(toS s0).ev (opd c'):=by
    cases opd c' with
    | t n=>exact hR.lk n
    | c x=>rfl
   obtain ⟨S,ρ,R0⟩:=R
   have hv:=ev_ok R0.fr c'
   rw [he,hb] at hv
   refine wp_cond hv.bool ?_
   cases b with
   | true=>exact ihx rfl x' h1 Q' hQ s a w hR ⟨S,ρ,R0⟩
   | false=>exact ihy rfl y' h2 Q' hQ s a w hR ⟨S,ρ,R0⟩
 | @frz c Q s0 l hp hz _ ih =>
  intro code hm Q' hQ s a w hR R
  have hz' : frzH s.hp l=some hp:=by rw [hR.1]; exact hz
  exact ih code hm Q' hQ ⟨s.fr,hp⟩ a w ⟨rfl,hR.2⟩ (R.frz hz')
 | @kp c Q s0 nils slots ids s' hnd htk hk _ ih =>
  intro code hm Q' hQ s a w hR R
  have hid:∀ i v L,ρ0 i v=some L→ids[i]?=some i:=fun i v L hL=>by
   have hi:=hm0 i v L hL
   have h1:(ids.take m)[i]?=some i:=by rw [htk]; simp [hi]
   rw [List.getElem?_take,if_pos hi] at h1; exact h1
  unfold ent at hk
  obtain ⟨s1,hk1,hk2⟩:=Option.bind_eq_some_iff.1 hk
  exact ih code hm Q' hQ s' a w (R2.ofS s') (kpI_ok (nilG_ok _ (R.toS hR) hk1) hnd hid hk2)
theorem ZW.step {x y:ACode} {Q:Exit→S2→Prop} {s:S2} (h:awp2 Φ m x (thenQ2 (ZW Φ m y Q) Q) s):ZW Φ m (.seq x y) Q s:=.seq _ (.run _ (fun _ _ h=>h) h) (fun _ h=>h)
theorem ZW.sub {x y:ACode} {Q:Exit→S2→Prop} {s:S2} (h:ZW Φ m x (thenQ2 (ZW Φ m y Q) Q) s):ZW Φ m (.seq x y) Q s:=.seq _ h (fun _ h=>h)
theorem ZW.fin {c:ACode} {Q:Exit→S2→Prop} {s:S2} (h:awp2 Φ m c Q s):ZW Φ m c Q s:=.run _ (fun _ _ h=>h) h
theorem fnZ_ok {f:FuncId} {fn:Func} {code:Code} {ac:ACode} {rs:List ARes} {sp:Spec} (hf:P.funcs[f]?=some fn) (hb:fn.body=some code) (hm:MtC P fn.ntmps code ac) (hr:All2 (MtR P) fn.results.toList rs) (hΦ:PhiOk P Φ)
  (h:∀ avs hp r,sp avs hp=some r→r.pre→avs.length≤fn.ntmps∧ZW Φ hp.length ac (retQ2 rs hp.length r) (ofS ⟨slots 0 avs,hp⟩)):FnOk P f sp:=by
 intro avs hp r hs hp' w S ρ args H ha
 obtain ⟨hlen,hw⟩:=h avs hp r hs hp'
 refine calls_of_wp hf hb ?_
 have hal:args.length≤fn.ntmps:=by rw [ha.2]; exact hlen
 have R:Rel (Lent ρ hp) w S ρ fn.ntmps [] ⟨slots 0 avs,hp⟩ { tmps:=args.toArray ++ Array.replicate (fn.ntmps - args.toArray.size) undef,defers:=[] } w:=by
  refine ⟨S,ρ,H,⟨ha.1,fun t=>?_⟩,by simp; omega,rfl,fun b hb=>.inl hb,Ext.refl _ _ _⟩
  rw [lk_slots,if_pos (Nat.zero_le t),Nat.sub_zero]
  rcases Nat.lt_or_ge t avs.length with hlt | hge
  ·have:=ha.3 t hlt
   have e:(args.toArray ++ Array.replicate (fn.ntmps - args.toArray.size) undef).getD t undef=args.getD t undef:=by
    have hta:t<args.length:=by rw [ha.2]; exact hlt
    have h1:(args.toArray ++ Array.replicate (fn.ntmps - args.toArray.size) undef)[t]?=some args[t]:=by
     rw [Array.getElem?_append_left (by simpa using hta)]; simp [hta]
    rw [Array.getD_eq_getD_getElem?,h1,List.getD_eq_getElem?_getD,List.getElem?_eq_getElem hta]
   rw [e]; exact this
  ·have:avs.getD t .top=.top:=by rw [List.getD_eq_getElem?_getD,List.getElem?_eq_none hge]; rfl
   rw [this]; exact Vl.top _
 have fin:∀ (s:St) (a:Act) (w' : World),finP hp.length r s (aret s rs)→Rel (Lent ρ hp) w S ρ fn.ntmps [] s a w' →
   a.defers=[]∧∃ v,(results fn a.tmps).run P w' = .ok v w' ∧ ∃ v' S' ρ',Ending.returned v=.returned v' ∧ Vl w' S' ρ' r.v v' ∧ HeapOk (Lent ρ hp) w S' ρ' r.hp w' ∧ Ext w w' S S' ρ ρ' ∧ (∀ b,S' b→S b∨w.heap.size≤b∨Lent ρ hp b):=by
  intro s a w' hfin hR
  obtain ⟨S',ρ',R⟩:=hR
  unfold finP at hfin
  split at hfin
  ·rename_i x p hx
   obtain ⟨hp1,hfin⟩:=hfin
   generalize closeIds s.hp 2 (addNew (List.range hp.length) (idsOf 4 x))=ids at hfin
   obtain ⟨i1,i2,i3,i4⟩:=hfin
   obtain ⟨v,hv1,hv2⟩:=aret_ok R.heap.obs R.fr hr hx hp1
   obtain ⟨H',hσ⟩:=R.heap.restr i2 i4
   refine ⟨R.dfr,v,hv1,v,S',_,rfl,ren_vl hσ i3 hv2,H',⟨R.ext.mem,R.ext.st,fun i u L hL=>?_⟩,fun b hb=>?_⟩
   ·have hi:i<hp.length:=by
     rcases Nat.lt_or_ge i hp.length with h1 | h1
     ·exact h1
     ·rw [H.new i h1] at hL; cases hL
    have h1:ids[i]?=some i:=by
     have:(ids.take hp.length)[i]?=some i:=by rw [i1]; simp [hi]
     rw [List.getElem?_take,if_pos hi] at this; exact this
    simp only [h1]
    exact R.ext.loc _ _ _ hL
   ·rcases R.sin b hb with h | h | h
    ·exact .inl h
    ·exact .inr (.inr h)
    ·exact .inr (.inl h)
  ·exact hfin.elim
 refine hw.ok hΦ (fun i v L hL=>?_) code hm _ (fun e s s2 a w' h2 hq R' => ?_) _ _ w (R2.ofS _) R
 ·rcases Nat.lt_or_ge i hp.length with h1 | h1
  ·exact h1
  ·rw [H.new i h1] at hL; cases hL
 ·have hq:=retQ2_ok e s s2 h2 hq
  cases e with
  | normal=>exact fin s a w' hq R'
  | ret=>exact fin s a w' hq R'
  | _=>exact hq.elim
theorem fn_slimZ {f:FuncId} {fn:Func} {ac:ACode} {rs:List ARes} {sp:Spec} (hf:P.funcs[f]?=some fn) (hs:slimF P fn=some (ac,rs)) (hΦ:PhiOk P Φ)
  (h:∀ avs hp r,sp avs hp=some r→r.pre→avs.length≤fn.ntmps∧ZW Φ hp.length ac (retQ2 rs hp.length r) (ofS ⟨slots 0 avs,hp⟩)):FnOk P f sp:=by
 unfold slimF slimG at hs
 split at hs
 ·rename_i c hc
  split at hs
  ·rename_i ac' rs' h1 h2
   simp only [Option.some.injEq,Prod.mk.injEq] at hs
   obtain ⟨rfl,rfl⟩:=hs
   exact fnZ_ok hf hc (slimC_ok h1) (all2_mapO (fun _ _=>slimR_ok) h2) hΦ h
  ·cases hs
 ·cases hs
end
end Go.Proofs.YtgaehhechonegaaGreatDoor
