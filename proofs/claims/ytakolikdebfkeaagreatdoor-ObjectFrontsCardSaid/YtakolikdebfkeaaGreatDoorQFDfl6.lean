import Derived.Test.YtakolikdebfkeaaGreatDoorQFAtoi
import Derived.Test.YtakolikdebfkeaaGreatDoorQAMS
import Derived.Test.YtakolikdebfkeaaGreatDoorQFDfl1
import Derived.Test.YtakolikdebfkeaaGreatDoorChecked
import Derived.Test.YtakolikdebfkeaaGreatDoorQAM9
import Derived.Test.YtakolikdebfkeaaGreatDoorQFR3g
import Derived.Test.YtakolikdebfkeaaGreatDoorQMem
import Derived.Shelf.Bytes.SlIndexAt
import Derived.Lib.IndexBytes
import Derived.Lib.IndexMore
open Nat (reduceDiv reduceMod reduceSub reduceAdd reduceLeDiff reduceEqDiff)
set_option linter.all false
namespace Go.Proofs.YtakolikdebfkeaaGreatDoor
open Go.RowKit
def dnum0S:Spec:=fun xs hp=>match xs,hp with
 | [.ref 0 0 0,.int .i64 k,.int .i64 m],[.cells t [(1,.con (.slice none 0 0)),(1,.int .i64 0)]]=>some ⟨.tup [],dbQ t (bitsN m.toNat k.toNat),0≤k∧k<4294967296∧0≤m∧m≤40⟩
 | _,_=>none
set_option maxRecDepth 8000 in
theorem dnum0_ok:FnOk Tryz.prog 139 dnum0S:=by
 refine fn_slim2 Tryz.func139 s_dnum (Φ:=phiL [(167,[],dputS)]) (phi_cons dput_ok (by kernel_rfl) phi_nil) ?_
 intro xs hp r hs hp'
 unfold dnum0S at hs
 split at hs
 ·rename_i k m t
  injection hs with hs; subst hs
  obtain ⟨h6,h7,h8,h9⟩:=hp'
  obtain ⟨k,rfl⟩:∃ p:Nat,k=p:=⟨k.toNat,by omega⟩
  obtain ⟨m,rfl⟩:∃ p:Nat,m=p:=⟨m.toNat,by omega⟩
  simp only [Int.toNat_natCast]
  refine ⟨len_le (by kernel_rfl),?_⟩
  simp only [c_dnum,dbQ,go_sem,reduceDiv,reduceMod,reduceAdd]
  refine loop2P [(4096,5,1)] [0,1,7,8] [0,1] (fun i:Nat=>⟨[(0,.ref 0 0 0),(1,.int .i64 (k:Int)),(7,.int .i64 (m:Int)),(8,.int .i64 (i:Int))],[.cells t [(1,.own 1 (verW (bitsN i k))),(1,.int .i64 ((bitsN i k).length:Int))],.row 5 1 (verW (bitsN i k)) (Bs (packW (bitsN i k)))]⟩)
   (fun i=>i≤m) (fun i=>m - i) 0 (by simp only [bitsN_zero,Int.cast_ofNat_Int,go_sem,reduceDiv,reduceMod,↓reduceIte,reduceSub,Nat.reduceLT,reduceAdd,reduceCtorEq]; rfl) (Nat.zero_le _) ⟨rfl,by rfl⟩ (fun i hi R hR=>?_)
  have hil:(bitsN i k).length=i:=bitsN_length i k
  by_cases him:i<m
  ·have c1:decide ((i:Int)<(m:Int))=true:=decide_eq_true (by omega)
   have e1:=shr_nat k i
   have hk:k / 2 ^ i<9223372036854775808:=Nat.lt_of_le_of_lt (Nat.div_le_self _ _) (by omega)
   have e2:=and1G (k / 2 ^ i) hk
   have hbd:=bit_dec k i
   have hsn:=bitsN_succ i k
   simp only [b_dnum_0,c1,e1,e2,dputS,dbQ,dW_pack,hbd,go_sem,reduceDiv,reduceMod,↓reduceIte,Nat.reduceBEq,Nat.reduceLT,reduceAdd,reduceCtorEq]
   refine ⟨by omega,⟨dOk_W _ (by omega),by omega⟩,by (first | omega | (simp only [inI]; omega)),hR _ (i+1) (by omega) (by omega) ?_⟩
   rw [hsn]
   rfl
  ·have c1:decide ((i:Int)<(m:Int))=false:=decide_eq_false (by omega)
   obtain rfl:i=m:=by omega
   simp only [b_dnum_0,r_dnum,c1,go_sem,reduceDiv,reduceMod,↓reduceIte,Nat.reduceBEq,reduceAdd,reduceCtorEq]
 ·cases hs
def intsM (es:List (MK × AV)):Prop:=∀ p∈es,∃ n,p.2=AV.int .i64 n
theorem ints_put {es:List (MK × AV)} {k:MK} {n:Int} (h:intsM es):intsM (putM es k (.int .i64 n)):=by
 induction es with
 | nil=>intro p hp; simp only [putM,List.mem_singleton] at hp; subst hp; exact ⟨n,rfl⟩
 | cons q r ih =>
  obtain ⟨k',y⟩:=q
  intro p hp
  simp only [putM] at hp
  split at hp
  ·rcases List.mem_cons.1 hp with rfl | hp
   ·exact ⟨n,rfl⟩
   ·exact h p (List.mem_cons_of_mem _ hp)
  ·rcases List.mem_cons.1 hp with rfl | hp
   ·exact h _ (List.mem_cons_self ..)
   ·exact ih (fun p hp=>h p (List.mem_cons_of_mem _ hp)) p hp
theorem ints_seen (b:List UInt8):∀ k,intsM (seenM b k)
 | 0=>fun p hp=>by cases hp
 | k+1=>by
  unfold seenM
  split
  ·exact ints_put (ints_seen b k)
  ·exact ints_seen b k
theorem ren_ints {σ:Nat→Option Nat} {es:List (MK × AV)} {ks:KS} (h:intsM es):renObj σ (.mp ks es)=some (.mp ks es):=by
 have:mapO (fun p:MK × AV=>(ren σ 4 p.2).map fun y=>(p.1,y)) es=some es:=by
  induction es with
  | nil=>rfl
  | cons q r ih =>
   obtain ⟨k',y⟩:=q
   obtain ⟨n,hn⟩:=h _ (List.mem_cons_self ..)
   simp only at hn
   subst hn
   have hi:=ih (fun p hp=>h p (List.mem_cons_of_mem _ hp))
   unfold mapO
   rw [hi]
   rfl
 show (mapO (fun p:MK × AV=>(ren σ 4 p.2).map fun y=>(p.1,y)) es).map (AObj.mp ks)=_
 rw [this]; rfl
theorem kp_mp {fr:List (List AV)} {slots:List Nat} {fr' : List (Nat × AV)} {T E:TypeId} {sz v:Nat} {xs:List AV} {ps:List (Nat × AV)} {ks:KS} {es:List (MK × AV)} (hes:intsM es)
  (h1:mapO (fun t=>(ren (posOf (List.range 3)) 4 (lk (flatF 0 fr) t)).map fun x=>(t,x)) slots=some fr') (h2:renObj (posOf (List.range 3)) (.cells T ps)=some (.cells T ps)) :
  kp slots 3 (toS ⟨fr,[.cells T ps,.row E sz v xs,.mp ks es]⟩)=some ⟨fr',[.cells T ps,.row E sz v xs,.mp ks es]⟩:=by
 have h3:lentO [.cells T ps,.row E sz v xs,.mp ks es] (List.range 3)=some [.cells T ps,.row E sz v xs,.mp ks es]:=by
  show mapO _ [0,1,2]=_
  unfold mapO
  simp only [List.getElem?_cons_zero,h2]
  unfold mapO
  simp only [List.getElem?_cons_zero,List.getElem?_cons_succ]
  unfold mapO
  simp only [List.getElem?_cons_zero,List.getElem?_cons_succ,ren_ints hes]
  rfl
 unfold kp
 show (match mapO (fun t=>(ren (posOf (List.range 3)) 4 (lk (flatF 0 fr) t)).map fun x=>(t,x)) slots,lentO [.cells T ps,.row E sz v xs,.mp ks es] (List.range 3) with
  | some fr,some hp=>some (⟨fr,hp⟩:St)
  | _,_=>none)=_
 rw [h1,h3]
theorem ent_mp {fr:List (List AV)} {slots:List Nat} {fr' : List (Nat × AV)} {T E:TypeId} {sz v:Nat} {xs:List AV} {ps:List (Nat × AV)} {ks:KS} {es:List (MK × AV)} {r:List AObj} (hes:intsM es)
  (h1:mapO (fun t=>(ren (posOf [0,1,2]) 4 (lk (flatF 0 fr) t)).map fun x=>(t,x)) slots=some fr') (h2:renObj (posOf [0,1,2]) (.cells T ps)=some (.cells T ps)) :
  ent [] slots [0,1,2] (toS ⟨fr,.cells T ps :: .row E sz v xs :: .mp ks es :: r⟩)=some ⟨fr',[.cells T ps,.row E sz v xs,.mp ks es]⟩:=by
 have h3:lentO (.cells T ps :: .row E sz v xs :: .mp ks es :: r) [0,1,2]=some [.cells T ps,.row E sz v xs,.mp ks es]:=by
  show mapO _ [0,1,2]=_
  unfold mapO
  simp only [List.getElem?_cons_zero,h2]
  unfold mapO
  simp only [List.getElem?_cons_zero,List.getElem?_cons_succ]
  unfold mapO
  simp only [List.getElem?_cons_zero,List.getElem?_cons_succ,ren_ints hes]
  rfl
 show (match mapO (fun t=>(ren (posOf [0,1,2]) 4 (lk (flatF 0 fr) t)).map fun x=>(t,x)) slots,lentO (.cells T ps :: .row E sz v xs :: .mp ks es :: r) [0,1,2] with
  | some fr,some hp=>some (⟨fr,hp⟩:St)
  | _,_=>none)=_
 rw [h1,h3]
def dfixW (b:List UInt8):List Bool:=fixW (toksF b b.length 0)
theorem moreN_le (lim:Nat):∀ f k,moreN lim f k≤f
 | 0,_=>Nat.le_refl _
 | f+1,k=>by
  unfold moreN
  have:=moreN_le lim f (k / 2)
  split <;> omega
theorem lenS_le (n:Nat):(lenS n).2.1≤8:=by
 unfold lenS
 split
 ·exact Nat.zero_le _
 ·split
  ·exact Nat.zero_le _
  ·exact moreN_le 8 8 _
theorem distS_le (n:Nat):(distS n).2.1≤15:=by
 unfold distS
 split
 ·exact Nat.zero_le _
 ·exact moreN_le 4 15 _
theorem cpy_le (n d:Nat):(tokB (.cpy n d)).length≤40:=by
 simp only [tokB,List.length_append,bitsN_length,bitsM_length]
 have:=signB_len (lenS n).1
 have:=lenS_le n
 have:=distS_le d
 omega
def dfix0S:Spec:=fun xs hp=>match xs,hp with
 | [.sl k ps],[]=>some ⟨.own 0 (verW (dfixW (unB ps))),[.row 5 1 (verW (dfixW (unB ps))) (Bs (packW (dfixW (unB ps))))],byOk k ps⟩
 | _,_=>none
theorem phFix_ok:PhiOk Tryz.prog (phiL [(139,[],dnum0S),(142,[],dsignS),(140,[],dlenS),(141,[],ddistS)]):=phi_cons dnum0_ok (by kernel_rfl) (phi_cons dsign_ok (by kernel_rfl) (phi_cons dlen_ok (by kernel_rfl) (phi_cons ddist_ok (by kernel_rfl) phi_nil)))
structure FxI where
 f:Nat
 at_:Nat
 W:List Bool
set_option maxRecDepth 8000 in
theorem dfix_step {Φ:Phi} {b:List UInt8} {at_ step:Nat} {W:List Bool} {s:S2} {Q:Exit→S2→Prop} (hb:b.length≤100000000) (h:at_+step≤b.length)
  (hk:ent [] [0,3,4,5,88,89] [0,1,2] (toS s)=some ⟨[(0,.sl 1 (Bs b)),(3,.ref 0 0 0),(4,.mpv 2),(5,.int .i64 (at_:Int)),(88,.int .i64 (step:Int)),(89,.int .i64 0)],[.cells 199 [(1,.own 1 (verW W)),(1,.int .i64 (W.length:Int))],.row 5 1 (verW W) (Bs (packW W)),.mp (.a 3) (seenM b at_)]⟩)
  (hQ:∀ s',kp [0,3,4,5] 3 (toS s')=some ⟨[(0,.sl 1 (Bs b)),(3,.ref 0 0 0),(4,.mpv 2),(5,.int .i64 ((at_+step:Nat):Int))],[.cells 199 [(1,.own 1 (verW W)),(1,.int .i64 (W.length:Int))],.row 5 1 (verW W) (Bs (packW W)),.mp (.a 3) (seenM b (at_+step))]⟩→Q (.exit 4) s'):loopQ2 0 (awp2 Φ 0 b_dfix_1) Q s:=by
 refine loop2P [] [0,3,4,5,88,89] [0,1,2] (fun i:Nat=>⟨[(0,.sl 1 (Bs b)),(3,.ref 0 0 0),(4,.mpv 2),(5,.int .i64 ((at_+i:Nat):Int)),(88,.int .i64 (step:Int)),(89,.int .i64 (i:Int))],[.cells 199 [(1,.own 1 (verW W)),(1,.int .i64 (W.length:Int))],.row 5 1 (verW W) (Bs (packW W)),.mp (.a 3) (seenM b (at_+i))]⟩) (fun i=>i≤step) (fun i=>step - i) 0 (by rw [hk]; rfl) (Nat.zero_le _) ⟨rfl,by rfl⟩ (fun i hi R hR=>?_)
 by_cases his:i<step
 ·have c1:decide ((i:Int)<(step:Int))=true:=decide_eq_true (by omega)
  by_cases h3:at_+i+3≤b.length
  ·have c2:decide (((at_+i:Nat):Int)+3≤(b.length:Int))=true:=decide_eq_true (by omega)
   have hkk:List.take 3 (List.drop (at_+i) (List.take b.length (Bs b)))=Bs (k3 b (at_+i)):=by
    rw [List.take_of_length_le (l:=Bs b) (by rw [Bs_length]; omega),← k3_take b (at_+i) h3]; simp [Bs]
   have hdl:(List.drop (at_+i) (List.take b.length (Bs b))).length=b.length - (at_+i):=by
    rw [List.take_of_length_le (l:=Bs b) (by rw [Bs_length]; omega),List.length_drop,Bs_length]
   have hk3:(k3 b (at_+i)).length=3:=rfl
   have hsn:seenM b (at_+(i+1))=putM (seenM b (at_+i)) (.a (k3 b (at_+i))) (.int .i64 ((at_+i:Nat):Int)):=by
    rw [← Nat.add_assoc]; show (if at_+i+3≤b.length then _ else _)=_; rw [if_pos h3]
   simp only [b_dfix_1,c1,c2,hkk,hdl,hk3,unB_Bs,unV_U,Int.toNat_natCast,Bs_len,go_sem,reduceDiv,reduceMod,↓reduceIte,Nat.reduceLT]
   refine ⟨by (first | omega | (simp only [inI]; omega)),by omega,by omega,by (first | omega | (simp only [inI]; omega)),by (first | omega | (simp only [inI]; omega)),hR _ (i+1) (by omega) (by omega) ?_⟩
   rw [hsn]
   exact kp_mp (ints_put (ints_seen b _)) (by rfl) (by rfl)
  ·have c2:decide (((at_+i:Nat):Int)+3≤(b.length:Int))=false:=decide_eq_false (by omega)
   have hsn:seenM b (at_+(i+1))=seenM b (at_+i):=by
    rw [← Nat.add_assoc]; show (if at_+i+3≤b.length then _ else _)=_; rw [if_neg h3]
   simp only [b_dfix_1,c1,c2,Bs_len,go_sem,reduceDiv,reduceMod,↓reduceIte]
   refine ⟨by (first | omega | (simp only [inI]; omega)),by (first | omega | (simp only [inI]; omega)),by (first | omega | (simp only [inI]; omega)),hR _ (i+1) (by omega) (by omega) ?_⟩
   rw [hsn]
   exact kp_mp (ints_seen b _) (by rfl) (by rfl)
 ·have c1:decide ((i:Int)<(step:Int))=false:=decide_eq_false (by omega)
  obtain rfl:i=step:=by omega
  simp only [b_dfix_1,c1,go_sem,reduceDiv,reduceMod,↓reduceIte]
  exact hQ _ (kp_mp (ints_seen b _) (by rfl) (by rfl))
set_option maxRecDepth 8000 in
set_option maxHeartbeats 4000000 in
theorem dfix0_ok:FnOk Tryz.prog 100 dfix0S:=by
 refine fn_slim2 Tryz.func100 s_dfix phFix_ok ?_
 intro xs hp r hs hp'
 unfold dfix0S at hs
 split at hs
 ·rename_i k ps
  injection hs with hs; subst hs
  obtain ⟨h1,h2,h3⟩:=hp'
  generalize unB ps=b at *
  subst h1 h2
  refine ⟨len_le (by kernel_rfl),?_⟩
  simp only [c_dfix,dnum0S,dbQ,Int.reduceToNat,go_sem,reduceDiv,reduceMod,↓reduceIte,reduceSub,Nat.reduceLT,reduceAdd,reduceLeDiff,Int.reduceLT,Int.reduceLE,Int.reduceToNat]
  refine loop2P [] [0,3,4,5] [0,1,2] (fun i:FxI=>⟨[(0,.sl 1 (Bs b)),(3,.ref 0 0 0),(4,.mpv 2),(5,.int .i64 (i.at_:Int))],[.cells 199 [(1,.own 1 (verW i.W)),(1,.int .i64 (i.W.length:Int))],.row 5 1 (verW i.W) (Bs (packW i.W)),.mp (.a 3) (seenM b i.at_)]⟩) (fun i=>i.at_≤b.length∧b.length - i.at_≤i.f∧i.W ++ ((toksF b i.f i.at_).flatMap tokB ++ signB 256)=dfixW b∧i.W.length≤3+40 * i.at_) (fun i=>b.length - i.at_) ⟨b.length,0,bitsN 3 3⟩ (by rfl) ⟨Nat.zero_le _,by simp only; omega,rfl,by simp only [bitsN_length]; omega⟩ ⟨rfl,by rfl⟩ (fun i hi R hR=>?_)
  obtain ⟨f,at_,W⟩:=i
  obtain ⟨i1,i2,i3,i4⟩:=hi
  simp only at i1 i2 i3 i4
  have hWd:=dOk_W W (by omega)
  by_cases hal:at_<b.length
  ·have c1:decide ((at_:Int)<(b.length:Int))=true:=decide_eq_true (by omega)
   by_cases h3a:at_+3≤b.length
   ·have c2:decide ((at_:Int)+3≤(b.length:Int))=true:=decide_eq_true (by omega)
    have hkk:List.take 3 (List.drop at_ (List.take b.length (Bs b)))=Bs (k3 b at_):=by
     rw [List.take_of_length_le (l:=Bs b) (by rw [Bs_length]; omega),← k3_take b at_ h3a]; simp [Bs]
    have hdl:(List.drop at_ (List.take b.length (Bs b))).length=b.length - at_:=by
     rw [List.take_of_length_le (l:=Bs b) (by rw [Bs_length]; omega),List.length_drop,Bs_length]
    have hk3:(k3 b at_).length=3:=rfl
    have hgm:=getM_seen b at_ at_ (by omega)
    cases hlp:lastP b at_ at_ with
    | none =>
     rw [hlp] at hgm
     simp only [b_dfix_2,c1,c2,hkk,hdl,hk3,hgm,unB_Bs,unV_U,Int.toNat_natCast,Bs_len,go_sem,reduceDiv,reduceMod,↓reduceIte,Nat.reduceLT,reduceAdd]
     refine ⟨by (first | omega | (simp only [inI]; omega)),by omega,by omega,?_⟩
     simp only [t_dfix_0,dsignS,dbQ,dW_pack,Int.toNat_natCast,Bs_len,go_sem,reduceDiv,reduceMod,↓reduceIte,reduceEqDiff,Nat.reduceBEq,Nat.reduceLT,reduceAdd,reduceCtorEq,Int.reduceLE]
     have hu:=(b.getD at_ 0).toNat_lt
     obtain ⟨f,rfl⟩:∃ g,f=g+1:=⟨f - 1,by omega⟩
     have htk:toksF b (f+1) at_=.lit (b.getD at_ 0) :: toksF b f (at_+1):=by
      show (if at_<b.length then tokS b at_ :: toksF b f (at_+stepT (tokS b at_)) else [])=_
      have:tokS b at_=.lit (b.getD at_ 0):=by unfold tokS; rw [if_pos h3a,hlp]
      rw [if_pos hal,this]; rfl
     have hsl:=signB_len (b.getD at_ 0).toNat
     refine ⟨by omega,by (first | omega | (simp only [inI]; omega)),⟨hWd,by omega,by omega,by omega⟩,dfix_step (at_:=at_) (step:=1) (W:=W ++ signB (b.getD at_ 0).toNat) h3 (by omega) (ent_mp (ints_seen b _) (by rfl) (by rfl)) (fun s' hs' => hR s' ⟨f,at_+1,W ++ signB (b.getD at_ 0).toNat⟩ ⟨by simp only; omega,by simp only; omega,by simp only; rw [← i3,htk,List.flatMap_cons]; simp only [List.append_assoc]; rfl,by simp only [List.length_append]; omega⟩ (by simp only; omega) hs')⟩
    | some p =>
     rw [hlp] at hgm
     have hpl:=lastP_lt hlp
     by_cases hfar:at_ - p≤32768
     ·have c5:decide ((at_:Int) - (p:Int)≤32768)=true:=decide_eq_true (by omega)
      simp only [b_dfix_2,c1,c2,c5,hkk,hdl,hk3,hgm,unB_Bs,unV_U,Int.toNat_natCast,Bs_len,go_sem,reduceDiv,reduceMod,↓reduceIte,Nat.reduceLT,reduceAdd]
      refine ⟨by (first | omega | (simp only [inI]; omega)),by omega,by omega,by (first | omega | (simp only [inI]; omega)),by (first | omega | (simp only [inI]; omega)),?_⟩
      refine loop2P [] [0,3,4,5,6,7,8] [0,1,2] (fun n:Nat=>⟨[(0,.sl 1 (Bs b)),(3,.ref 0 0 0),(4,.mpv 2),(5,.int .i64 (at_:Int)),(6,.int .i64 (n:Int)),(7,.int .i64 ((at_:Int) - (p:Int))),(8,.int .i64 (p:Int))],[.cells 199 [(1,.own 1 (verW W)),(1,.int .i64 (W.length:Int))],.row 5 1 (verW W) (Bs (packW W)),.mp (.a 3) (seenM b at_)]⟩)
       (fun n=>n≤258∧at_+n≤b.length∧mlen b p at_ 258 0=mlen b p at_ (258 - n) n) (fun n=>258 - n) 0 (ent_mp (ints_seen b _) (by rfl) (by rfl)) ⟨by omega,by omega,rfl⟩ ⟨rfl,by rfl⟩ (fun n hn R2 hR2=>?_)
      obtain ⟨n1,n2,n3⟩:=hn
      by_cases hc:n<258∧at_+n<b.length∧b.getD (p+n) 0=b.getD (at_+n) 0
      ·have c6:decide ((n:Int)<258)=true:=decide_eq_true (by omega)
       have c7:decide ((at_:Int)+(n:Int)<(b.length:Int))=true:=decide_eq_true (by omega)
       have c8:decide (((b.getD (p+n) 0).toNat:Int)=((b.getD (at_+n) 0).toNat:Int))=true:=by rw [hc.2.2]; exact decide_eq_true rfl
       have e6:((p:Int)+(n:Int)).toNat=p+n:=by omega
       have e7:((at_:Int)+(n:Int)).toNat=at_+n:=by omega
       have hm:mlen b p at_ (258 - n) n=mlen b p at_ (258 - (n+1)) (n+1):=by
        rw [show 258 - n=(258 - (n+1))+1 by omega]; show (if _ then _ else _)=_; rw [if_pos hc]
       simp only [b_dfix_0,c6,c7,c8,e6,e7,Bs_len,go_sem,reduceDiv,reduceMod,↓reduceIte,reduceAdd,reduceCtorEq]
       exact ⟨by (first | omega | (simp only [inI]; omega)),by (first | omega | (simp only [inI]; omega)),by omega,by (first | omega | (simp only [inI]; omega)),by omega,by (first | omega | (simp only [inI]; omega)),hR2 _ (n+1) ⟨by omega,by omega,by rw [n3,hm]⟩ (by omega) (kp_mp (ints_seen b _) (by rfl) (by rfl))⟩
      ·have hM:mlen b p at_ 258 0=n:=by
        rw [n3]
        rcases Nat.lt_or_ge n 258 with h | h
        ·rw [show 258 - n=(258 - (n+1))+1 by omega]; show (if _ then _ else _)=_; rw [if_neg hc]
        ·rw [show 258 - n=0 by omega]; rfl
       have hu:=(b.getD at_ 0).toNat_lt
       obtain ⟨f,rfl⟩:∃ g,f=g+1:=⟨f - 1,by omega⟩
       have e6:((p:Int)+(n:Int)).toNat=p+n:=by omega
       have e7:((at_:Int)+(n:Int)).toNat=at_+n:=by omega
       have hsl:=signB_len (b.getD at_ 0).toNat
       by_cases hn3:3≤n
       ·have c9:decide ((3:Int)≤(n:Int))=true:=decide_eq_true (by omega)
        have htk:toksF b (f+1) at_=.cpy n (at_ - p) :: toksF b f (at_+n):=by
         show (if at_<b.length then tokS b at_ :: toksF b f (at_+stepT (tokS b at_)) else [])=_
         have:tokS b at_=.cpy n (at_ - p):=by unfold tokS; rw [if_pos h3a,hlp]; simp only; rw [hM,if_pos ⟨hfar,hn3⟩]
         rw [if_pos hal,this]; rfl
        have e9:((at_:Int) - (p:Int)).toNat=at_ - p:=by omega
        have eW:W ++ signB (lenS n).1 ++ bitsN (lenS n).2.1 (lenS n).2.2 ++ bitsM 5 (distS (at_ - p)).1 ++ bitsN (distS (at_ - p)).2.1 (distS (at_ - p)).2.2=W ++ tokB (.cpy n (at_ - p)):=by simp only [tokB,List.append_assoc]
        have hcl:=cpy_le n (at_ - p)
        have hWl:(W ++ signB (lenS n).1 ++ bitsN (lenS n).2.1 (lenS n).2.2).length≤W.length+20:=by
         rw [List.length_append,List.length_append,bitsN_length]
         have:=signB_len (lenS n).1
         have:=lenS_le n
         omega
        have hWd2:=dOk_W (W ++ signB (lenS n).1 ++ bitsN (lenS n).2.1 (lenS n).2.2) (by omega)
        rcases Nat.lt_or_ge n 258 with h58 | h58
        ·have c6:decide ((n:Int)<258)=true:=decide_eq_true (by omega)
         rcases Nat.lt_or_ge (at_+n) b.length with hbl | hbl
         ·have c7:decide ((at_:Int)+(n:Int)<(b.length:Int))=true:=decide_eq_true (by omega)
          have c8:decide (((b.getD (p+n) 0).toNat:Int)=((b.getD (at_+n) 0).toNat:Int))=false:=decide_eq_false (fun h=>hc ⟨h58,hbl,UInt8.toNat_inj.1 (by exact_mod_cast h)⟩)
          simp only [b_dfix_0,t_dfix_0,c6,c7,c8,c9,e6,e7,e9,eW,dlenS,ddistS,dbQ,dW_pack,← List.append_assoc,Int.toNat_natCast,Bs_len,go_sem,reduceDiv,reduceMod,↓reduceIte,reduceEqDiff,Nat.reduceBEq,Nat.reduceLT,reduceAdd,reduceCtorEq]
          refine ⟨by (first | omega | (simp only [inI]; omega)),by (first | omega | (simp only [inI]; omega)),⟨by omega,by omega⟩,by (first | omega | (simp only [inI]; omega)),⟨by omega,by omega⟩,⟨hWd,by omega,by omega,by omega⟩,⟨hWd2,by omega,by omega,by omega⟩,dfix_step (at_:=at_) (step:=n) (W:=W ++ tokB (.cpy n (at_ - p))) h3 (by omega) (ent_mp (ints_seen b _) (by rfl) (by rfl)) (fun s' hs' => hR s' ⟨f,at_+n,W ++ tokB (.cpy n (at_ - p))⟩ ⟨by simp only; omega,by simp only; omega,by simp only; rw [← i3,htk,List.flatMap_cons]; simp only [List.append_assoc],by simp only [List.length_append]; omega⟩ (by simp only; omega) hs')⟩
         ·have c7:decide ((at_:Int)+(n:Int)<(b.length:Int))=false:=decide_eq_false (by omega)
          simp only [b_dfix_0,t_dfix_0,c6,c7,c9,e9,eW,dlenS,ddistS,dbQ,dW_pack,← List.append_assoc,Int.toNat_natCast,Bs_len,go_sem,reduceDiv,reduceMod,↓reduceIte,reduceEqDiff,Nat.reduceBEq,Nat.reduceLT,reduceAdd,reduceCtorEq]
          refine ⟨by (first | omega | (simp only [inI]; omega)),⟨hWd,by omega,by omega,by omega⟩,⟨hWd2,by omega,by omega,by omega⟩,dfix_step (at_:=at_) (step:=n) (W:=W ++ tokB (.cpy n (at_ - p))) h3 (by omega) (ent_mp (ints_seen b _) (by rfl) (by rfl)) (fun s' hs' => hR s' ⟨f,at_+n,W ++ tokB (.cpy n (at_ - p))⟩ ⟨by simp only; omega,by simp only; omega,by simp only; rw [← i3,htk,List.flatMap_cons]; simp only [List.append_assoc],by simp only [List.length_append]; omega⟩ (by simp only; omega) hs')⟩
        ·have c6:decide ((n:Int)<258)=false:=decide_eq_false (by omega)
         simp only [b_dfix_0,t_dfix_0,c6,c9,e9,eW,dlenS,ddistS,dbQ,dW_pack,← List.append_assoc,Int.toNat_natCast,go_sem,reduceDiv,reduceMod,↓reduceIte,reduceEqDiff,Nat.reduceBEq,Nat.reduceLT,reduceAdd,reduceCtorEq]
         refine ⟨⟨hWd,by omega,by omega,by omega⟩,⟨hWd2,by omega,by omega,by omega⟩,dfix_step (at_:=at_) (step:=n) (W:=W ++ tokB (.cpy n (at_ - p))) h3 (by omega) (ent_mp (ints_seen b _) (by rfl) (by rfl)) (fun s' hs' => hR s' ⟨f,at_+n,W ++ tokB (.cpy n (at_ - p))⟩ ⟨by simp only; omega,by simp only; omega,by simp only; rw [← i3,htk,List.flatMap_cons]; simp only [List.append_assoc],by simp only [List.length_append]; omega⟩ (by simp only; omega) hs')⟩
       ·have c9:decide ((3:Int)≤(n:Int))=false:=decide_eq_false (by omega)
        have htk:toksF b (f+1) at_=.lit (b.getD at_ 0) :: toksF b f (at_+1):=by
         show (if at_<b.length then tokS b at_ :: toksF b f (at_+stepT (tokS b at_)) else [])=_
         have:tokS b at_=.lit (b.getD at_ 0):=by unfold tokS; rw [if_pos h3a,hlp]; simp only; rw [hM,if_neg (fun h=>hn3 h.2)]
         rw [if_pos hal,this]; rfl
        rcases Nat.lt_or_ge n 258 with h58 | h58
        ·have c6:decide ((n:Int)<258)=true:=decide_eq_true (by omega)
         rcases Nat.lt_or_ge (at_+n) b.length with hbl | hbl
         ·have c7:decide ((at_:Int)+(n:Int)<(b.length:Int))=true:=decide_eq_true (by omega)
          have c8:decide (((b.getD (p+n) 0).toNat:Int)=((b.getD (at_+n) 0).toNat:Int))=false:=decide_eq_false (fun h=>hc ⟨h58,hbl,UInt8.toNat_inj.1 (by exact_mod_cast h)⟩)
          simp only [b_dfix_0,t_dfix_0,c6,c7,c8,c9,e6,e7,dsignS,dbQ,dW_pack,Int.toNat_natCast,Bs_len,go_sem,reduceDiv,reduceMod,↓reduceIte,reduceEqDiff,Nat.reduceBEq,Nat.reduceLT,reduceAdd,reduceCtorEq]
          refine ⟨by (first | omega | (simp only [inI]; omega)),by (first | omega | (simp only [inI]; omega)),⟨by omega,by omega⟩,by (first | omega | (simp only [inI]; omega)),⟨by omega,by omega⟩,⟨by omega,by omega⟩,by (first | omega | (simp only [inI]; omega)),⟨hWd,by omega,by omega,by omega⟩,dfix_step (at_:=at_) (step:=1) (W:=W ++ signB (b.getD at_ 0).toNat) h3 (by omega) (ent_mp (ints_seen b _) (by rfl) (by rfl)) (fun s' hs' => hR s' ⟨f,at_+1,W ++ signB (b.getD at_ 0).toNat⟩ ⟨by simp only; omega,by simp only; omega,by simp only; rw [← i3,htk,List.flatMap_cons]; simp only [List.append_assoc]; rfl,by simp only [List.length_append]; omega⟩ (by simp only; omega) hs')⟩
         ·have c7:decide ((at_:Int)+(n:Int)<(b.length:Int))=false:=decide_eq_false (by omega)
          simp only [b_dfix_0,t_dfix_0,c6,c7,c9,dsignS,dbQ,dW_pack,Int.toNat_natCast,Bs_len,go_sem,reduceDiv,reduceMod,↓reduceIte,reduceEqDiff,Nat.reduceBEq,Nat.reduceLT,reduceAdd,reduceCtorEq]
          refine ⟨by (first | omega | (simp only [lenOk,bytesOk,inI,IntKind.bits,List.length_append,Bs_len,List.length_cons,List.length_nil,List.length_map,List.length_take,List.length_drop,List.length_replicate]; omega)),⟨by omega,by omega⟩,by (first | omega | (simp only [lenOk,bytesOk,inI,IntKind.bits,List.length_append,Bs_len,List.length_cons,List.length_nil,List.length_map,List.length_take,List.length_drop,List.length_replicate]; omega)),⟨hWd,by omega,by omega,by omega⟩,dfix_step (at_:=at_) (step:=1) (W:=W ++ signB (b.getD at_ 0).toNat) h3 (by omega) (ent_mp (ints_seen b _) (by rfl) (by rfl)) (fun s' hs' => hR s' ⟨f,at_+1,W ++ signB (b.getD at_ 0).toNat⟩ ⟨by simp only; omega,by simp only; omega,by simp only; rw [← i3,htk,List.flatMap_cons]; simp only [List.append_assoc]; rfl,by simp only [List.length_append]; omega⟩ (by simp only; omega) hs')⟩
        ·have c6:decide ((n:Int)<258)=false:=decide_eq_false (by omega)
         simp only [b_dfix_0,t_dfix_0,c6,c9,dsignS,dbQ,dW_pack,Int.toNat_natCast,Bs_len,go_sem,reduceDiv,reduceMod,↓reduceIte,reduceEqDiff,Nat.reduceBEq,Nat.reduceLT,reduceAdd,reduceCtorEq]
         refine ⟨⟨by omega,by omega⟩,by (first | omega | (simp only [lenOk,bytesOk,inI,IntKind.bits,List.length_append,Bs_len,List.length_cons,List.length_nil,List.length_map,List.length_take,List.length_drop,List.length_replicate]; omega)),⟨hWd,by omega,by omega,by omega⟩,dfix_step (at_:=at_) (step:=1) (W:=W ++ signB (b.getD at_ 0).toNat) h3 (by omega) (ent_mp (ints_seen b _) (by rfl) (by rfl)) (fun s' hs' => hR s' ⟨f,at_+1,W ++ signB (b.getD at_ 0).toNat⟩ ⟨by simp only; omega,by simp only; omega,by simp only; rw [← i3,htk,List.flatMap_cons]; simp only [List.append_assoc]; rfl,by simp only [List.length_append]; omega⟩ (by simp only; omega) hs')⟩
     ·have c5:decide ((at_:Int) - (p:Int)≤32768)=false:=decide_eq_false (by omega)
      simp only [b_dfix_2,c1,c2,c5,hkk,hdl,hk3,hgm,unB_Bs,unV_U,Int.toNat_natCast,Bs_len,go_sem,reduceDiv,reduceMod,↓reduceIte,Nat.reduceLT,reduceAdd]
      refine ⟨by (first | omega | (simp only [inI]; omega)),by omega,by omega,by (first | omega | (simp only [inI]; omega)),?_⟩
      have hu:=(b.getD at_ 0).toNat_lt
      obtain ⟨f,rfl⟩:∃ g,f=g+1:=⟨f - 1,by omega⟩
      have hsl:=signB_len (b.getD at_ 0).toNat
      have htk:toksF b (f+1) at_=.lit (b.getD at_ 0) :: toksF b f (at_+1):=by
       show (if at_<b.length then tokS b at_ :: toksF b f (at_+stepT (tokS b at_)) else [])=_
       have:tokS b at_=.lit (b.getD at_ 0):=by unfold tokS; rw [if_pos h3a,hlp]; simp only; rw [if_neg (fun h=>hfar h.1)]
       rw [if_pos hal,this]; rfl
      simp only [t_dfix_0,dsignS,dbQ,dW_pack,Int.toNat_natCast,Bs_len,go_sem,reduceDiv,reduceMod,↓reduceIte,reduceEqDiff,Nat.reduceBEq,Nat.reduceLT,reduceAdd,reduceCtorEq,Int.reduceLE]
      refine ⟨⟨by omega,by omega⟩,by (first | omega | (simp only [inI]; omega)),⟨hWd,by omega,by omega,by omega⟩,dfix_step (at_:=at_) (step:=1) (W:=W ++ signB (b.getD at_ 0).toNat) h3 (by omega) (ent_mp (ints_seen b _) (by rfl) (by rfl)) (fun s' hs' => hR s' ⟨f,at_+1,W ++ signB (b.getD at_ 0).toNat⟩ ⟨by simp only; omega,by simp only; omega,by simp only; rw [← i3,htk,List.flatMap_cons]; simp only [List.append_assoc]; rfl,by simp only [List.length_append]; omega⟩ (by simp only; omega) hs')⟩
   ·have c2:decide ((at_:Int)+3≤(b.length:Int))=false:=decide_eq_false (by omega)
    simp only [b_dfix_2,c1,c2,Bs_len,go_sem,reduceDiv,reduceMod,↓reduceIte]
    refine ⟨by (first | omega | (simp only [inI]; omega)),?_⟩
    have hu:=(b.getD at_ 0).toNat_lt
    obtain ⟨f,rfl⟩:∃ g,f=g+1:=⟨f - 1,by omega⟩
    have hsl:=signB_len (b.getD at_ 0).toNat
    have htk:toksF b (f+1) at_=.lit (b.getD at_ 0) :: toksF b f (at_+1):=by
     show (if at_<b.length then tokS b at_ :: toksF b f (at_+stepT (tokS b at_)) else [])=_
     have:tokS b at_=.lit (b.getD at_ 0):=by unfold tokS; rw [if_neg h3a]
     rw [if_pos hal,this]; rfl
    simp only [t_dfix_0,dsignS,dbQ,dW_pack,Int.toNat_natCast,Bs_len,go_sem,reduceDiv,reduceMod,↓reduceIte,reduceEqDiff,Nat.reduceBEq,Nat.reduceLT,reduceAdd,reduceCtorEq,Int.reduceLE]
    refine ⟨⟨by omega,by omega⟩,by (first | omega | (simp only [inI]; omega)),⟨hWd,by omega,by omega,by omega⟩,dfix_step (at_:=at_) (step:=1) (W:=W ++ signB (b.getD at_ 0).toNat) h3 (by omega) (ent_mp (ints_seen b _) (by rfl) (by rfl)) (fun s' hs' => hR s' ⟨f,at_+1,W ++ signB (b.getD at_ 0).toNat⟩ ⟨by simp only; omega,by simp only; omega,by simp only; rw [← i3,htk,List.flatMap_cons]; simp only [List.append_assoc]; rfl,by simp only [List.length_append]; omega⟩ (by simp only; omega) hs')⟩
  ·have c1:decide ((at_:Int)<(b.length:Int))=false:=decide_eq_false (by omega)
   obtain rfl:at_=b.length:=by omega
   have ht:toksF b f b.length=[]:=by
    cases f with
    | zero=>rfl
    | succ f=>unfold toksF; rw [if_neg (by omega)]
   rw [ht,List.flatMap_nil,List.nil_append] at i3
   simp only [b_dfix_2,t_dfix_1,r_dfix,c1,Bs_len,dsignS,dbQ,dW_pack,i3,Int.reduceToNat,go_sem,reduceDiv,reduceMod,↓reduceIte,reduceEqDiff,Nat.reduceBEq,Nat.reduceLT,reduceAdd,reduceCtorEq,Int.reduceLT,Int.reduceLE,Int.reduceToNat]
   exact ⟨hWd,by omega⟩
 ·cases hs
def dfixS:Spec:=fun xs hp=>match xs,hp with
 | [.sl k ps],[]=>some ⟨.sl 1 (Bs (dflF (unB ps))),[],byOk k ps⟩
 | _,_=>none
theorem dfix_ok:FnOk Tryz.prog 100 dfixS:=dfix0_ok.freezeD fun xs hp r' hs hp' => by
 unfold dfixS at hs
 split at hs
 ·rename_i k ps
  injection hs with hs; subst hs
  refine ⟨rfl,⟨.own 0 (verW (dfixW (unB ps))),[.row 5 1 (verW (dfixW (unB ps))) (Bs (packW (dfixW (unB ps))))],byOk k ps⟩,rfl,hp',rfl,?_,rfl,rfl⟩
  simp [fzV,fzD]
  rfl
 ·cases hs
def dstorS:Spec:=fun xs hp=>match xs,hp with
 | [.sl k ps],[]=>some ⟨.sl 1 (Bs (storW (unB ps))),[],byOk k ps⟩
 | _,_=>none
theorem dstor_ok:FnOk Tryz.prog 101 dstorS:=dstor0_ok.freezeD fun xs hp r' hs hp' => by
 unfold dstorS at hs
 split at hs
 ·rename_i k ps
  injection hs with hs; subst hs
  refine ⟨rfl,⟨.own 0 (storV ((unB ps).length+1) (unB ps)),[.row 5 1 (storV ((unB ps).length+1) (unB ps)) (Bs (storW (unB ps)))],byOk k ps⟩,rfl,hp',rfl,?_,rfl,rfl⟩
  simp [fzV,fzD]
 ·cases hs
def drawS:Spec:=fun xs hp=>match xs,hp with
 | [.sl k ps],[]=>some ⟨.sl 1 (Bs (dflL (unB ps))),[],byOk k ps⟩
 | _,_=>none
theorem draw_ok:FnOk Tryz.prog 58 drawS:=by
 refine fn_slim2 Tryz.func58 s_draw (Φ:=phiL [(100,[],dfixS),(101,[],dstorS)]) (phi_cons dfix_ok (by kernel_rfl) (phi_cons dstor_ok (by kernel_rfl) phi_nil)) ?_
 intro xs hp r hs hp'
 unfold drawS at hs
 split at hs
 ·rename_i k ps
  injection hs with hs; subst hs
  have hP:byOk k ps:=hp'
  refine ⟨len_le (by kernel_rfl),?_⟩
  by_cases hl:(dflF (unB ps)).length≤(storW (unB ps)).length
  ·have c1:decide (((dflF (unB ps)).length:Int)≤((storW (unB ps)).length:Int))=true:=decide_eq_true (by omega)
   have e:dflL (unB ps)=dflF (unB ps):=if_pos hl
   rw [e]
   simp only [c_draw,r_draw,dfixS,dstorS,c1,Bs_len,go_sem,reduceDiv,reduceMod,↓reduceIte,reduceEqDiff]
   exact hP
  ·have c1:decide (((dflF (unB ps)).length:Int)≤((storW (unB ps)).length:Int))=false:=decide_eq_false (by omega)
   have e:dflL (unB ps)=storW (unB ps):=if_neg hl
   rw [e]
   simp only [c_draw,r_draw,dfixS,dstorS,c1,Bs_len,go_sem,reduceDiv,reduceMod,↓reduceIte,reduceEqDiff]
   exact hP
 ·cases hs
theorem dflL_len (b:List UInt8):(dflL b).length≤6 * b.length+5:=by
 have h:(storW b).length≤6 * b.length+5:=by
  have:=storB_le (b.length+1) b
  unfold storW; omega
 unfold dflL
 split <;> omega
def zwrapS:Spec:=fun xs hp=>match xs,hp with
 | [.sl k ps],[]=>some ⟨.own 0 2,[.row 5 1 2 (Bs (zwrap (unB ps)))],byOk k ps⟩
 | _,_=>none
set_option maxRecDepth 8000 in
theorem zwrap_ok:FnOk Tryz.prog 21 zwrapS:=by
 refine fn_slim2 Tryz.func21 s_zwrap (Φ:=phiL [(57,[],adlerS),(56,[],zfourS),(58,[],drawS)]) (phi_cons adler_ok (by kernel_rfl) (phi_cons zfour_ok (by kernel_rfl) (phi_cons draw_ok (by kernel_rfl) phi_nil))) ?_
 intro xs hp r hs hp'
 unfold zwrapS at hs
 split at hs
 ·rename_i k ps
  injection hs with hs; subst hs
  obtain ⟨h1,h2,h3⟩:=hp'
  generalize unB ps=b at *
  subst h1 h2
  refine ⟨len_le (by kernel_rfl),?_⟩
  simp only [c_zwrap,r_zwrap,adlerS,zfourS,drawS,unB_Bs,Int.toNat_natCast,Bs_len,go_sem,reduceDiv,reduceMod,↓reduceIte,reduceEqDiff,reduceSub,reduceAdd,reduceCtorEq,Int.reduceLT,Int.reduceLE,Int.reduceToNat]
  have hl:=dflL_len b
  have ha:=adlN_lt b
  have e:zwrap b=120 :: 156 :: (dflL b ++ tail4 (adlN b)):=by unfold zwrap; simp []
  have e2:AV.int IntKind.u8 120 :: AV.int IntKind.u8 156 :: (Bs (dflL b) ++ Bs (tail4 (adlN b)))=Bs (zwrap b):=by rw [e,← Bs_append]; rfl
  rw [e2]
  have h4:(tail4 (adlN b)).length=4:=rfl
  simp only [List.length_append,Bs_length,h4]
  refine ⟨⟨.inl trivial,by omega⟩,⟨by omega,by omega⟩,trivial,⟨(unB_Bs b).symm ▸ rfl,rfl,by rw [unB_Bs]; omega⟩,⟨by simp only [lenOk]; omega,by simp only [bytesOk]; omega⟩,⟨by simp only [lenOk]; omega,by simp only [bytesOk]; omega⟩,trivial⟩
 ·cases hs
def b_bidx_0:ACode:=(.seq (.seq (.reg none [oS 67 (.mv (.t 8)),oS 68 (.mv (.t 9)),oS 69 (.bin .lss (.t 67) (.t 68))]) (.cond (.t 69) .skip (.exit 1))) (.block 2 (.seq (.seq (.reg none [oS 70 (.mv (.t 0)),oS 71 (.mv (.t 8)),oS 72 (.ia 1 (.int .u8 0) (.t 70) (.t 71)),oS 73 (.ld (.one (.int .u8 0)) (.t 72)),oS 74 (.mv (.t 6)),oS 75 (.bin .neq (.t 73) (.t 74))]) (.cond (.t 75) (.seq (.reg none [oS 76 (.mv (.t 0)),oS 77 (.mv (.t 8)),oS 78 (.bin .add (.t 77) (.c (.int .i64 1))),oS 79 (.mv (.t 9)),oS 80 (.sl 1 (.t 76) (some (.t 78)) (some (.t 79))),oS 81 (.mv (.t 6)),oS 82 (.call 129 [(.t 80),(.t 81)]),oS 11 (.mv (.t 82))]) (.seq (.seq (.reg none [oS 83 (.mv (.t 11)),oS 84 (.bin .lss (.t 83) (.c (.int .i64 0)))]) (.cond (.t 84) (.seq (.reg none [oS 4 (.mv (.c (.int .i64 (-1))))]) .ret) .skip)) (.reg none [oS 85 (.mv (.t 8)),oS 86 (.mv (.t 11)),oS 87 (.bin .add (.t 86) (.c (.int .i64 1))),oS 88 (.bin .add (.t 85) (.t 87)),oS 8 (.mv (.t 88))]))) .skip)) (.seq (.seq (.reg none [oS 89 (.mv (.t 0)),oS 90 (.mv (.t 8)),oS 91 (.bin .add (.t 90) (.c (.int .i64 1))),oS 92 (.ia 1 (.int .u8 0) (.t 89) (.t 91)),oS 93 (.ld (.one (.int .u8 0)) (.t 92)),oS 94 (.mv (.t 7)),oS 95 (.bin .eql (.t 93) (.t 94)),oS 96 (.mv (.t 95)),oG 97 (.mv (.t 0)) 96,oG 98 (.mv (.t 8)) 96,oG 99 (.mv (.t 8)) 96,oG 100 (.mv (.t 5)) 96,oG 101 (.bin .add (.t 99) (.t 100)) 96,oG 102 (.sl 1 (.t 97) (some (.t 98)) (some (.t 101))) 96,oG 103 (.mv (.t 1)) 96,oG 104 (.call 130 [(.t 102),(.t 103)]) 96,oS 105 (.pick (.t 96) (.t 104) (.c (.bool false)))]) (.cond (.t 105) (.seq (.reg none [oS 106 (.mv (.t 8)),oS 4 (.mv (.t 106))]) .ret) .skip)) (.seq (.reg none [oS 107 (.mv (.t 10)),oS 108 (.bin .add (.t 107) (.c (.int .i64 1))),oS 10 (.mv (.t 108))]) (.seq (.reg none [oS 109 (.mv (.t 8)),oS 110 (.bin .add (.t 109) (.c (.int .i64 1))),oS 8 (.mv (.t 110))]) (.seq (.reg none [oS 111 (.mv (.t 10)),oS 112 (.mv (.t 8)),oS 113 (.call 132 [(.t 112)]),oS 114 (.bin .gtr (.t 111) (.t 113))]) (.cond (.t 114) (.seq (.reg none [oS 115 (.mv (.t 0)),oS 116 (.mv (.t 8)),oS 117 (.sl 1 (.t 115) (some (.t 116)) none),oS 118 (.mv (.t 1)),oS 119 (.call 131 [(.t 117),(.t 118)]),oS 12 (.mv (.t 119))]) (.seq (.seq (.reg none [oS 120 (.mv (.t 12)),oS 121 (.bin .geq (.t 120) (.c (.int .i64 0)))]) (.cond (.t 121) (.seq (.reg none [oS 122 (.mv (.t 12)),oS 123 (.mv (.t 8)),oS 124 (.bin .add (.t 122) (.t 123)),oS 4 (.mv (.t 124))]) .ret) .skip)) (.seq (.reg none [oS 4 (.mv (.c (.int .i64 (-1))))]) .ret))) .skip))))))))
def b_bidx_1:ACode:=(.seq (.seq (.reg none [oS 136 (.mv (.t 15)),oS 137 (.mv (.t 17)),oS 138 (.bin .lss (.t 136) (.t 137))]) (.cond (.t 138) .skip (.exit 3))) (.block 4 (.seq (.seq (.reg none [oS 139 (.mv (.t 0)),oS 140 (.mv (.t 15)),oS 141 (.ia 1 (.int .u8 0) (.t 139) (.t 140)),oS 142 (.ld (.one (.int .u8 0)) (.t 141)),oS 143 (.mv (.t 13)),oS 144 (.bin .neq (.t 142) (.t 143))]) (.cond (.t 144) (.seq (.reg none [oS 145 (.mv (.t 0)),oS 146 (.mv (.t 15)),oS 147 (.bin .add (.t 146) (.c (.int .i64 1))),oS 148 (.mv (.t 17)),oS 149 (.sl 1 (.t 145) (some (.t 147)) (some (.t 148))),oS 150 (.mv (.t 13)),oS 151 (.call 129 [(.t 149),(.t 150)]),oS 18 (.mv (.t 151))]) (.seq (.seq (.reg none [oS 152 (.mv (.t 18)),oS 153 (.bin .lss (.t 152) (.c (.int .i64 0)))]) (.cond (.t 153) (.exit 3) .skip)) (.reg none [oS 154 (.mv (.t 15)),oS 155 (.mv (.t 18)),oS 156 (.bin .add (.t 155) (.c (.int .i64 1))),oS 157 (.bin .add (.t 154) (.t 156)),oS 15 (.mv (.t 157))]))) .skip)) (.seq (.seq (.reg none [oS 158 (.mv (.t 0)),oS 159 (.mv (.t 15)),oS 160 (.bin .add (.t 159) (.c (.int .i64 1))),oS 161 (.ia 1 (.int .u8 0) (.t 158) (.t 160)),oS 162 (.ld (.one (.int .u8 0)) (.t 161)),oS 163 (.mv (.t 14)),oS 164 (.bin .eql (.t 162) (.t 163)),oS 165 (.mv (.t 164)),oG 166 (.mv (.t 0)) 165,oG 167 (.mv (.t 15)) 165,oG 168 (.mv (.t 15)) 165,oG 169 (.mv (.t 5)) 165,oG 170 (.bin .add (.t 168) (.t 169)) 165,oG 171 (.sl 1 (.t 166) (some (.t 167)) (some (.t 170))) 165,oG 172 (.mv (.t 1)) 165,oG 173 (.call 130 [(.t 171),(.t 172)]) 165,oS 174 (.pick (.t 165) (.t 173) (.c (.bool false)))]) (.cond (.t 174) (.seq (.reg none [oS 175 (.mv (.t 15)),oS 4 (.mv (.t 175))]) .ret) .skip)) (.seq (.reg none [oS 176 (.mv (.t 15)),oS 177 (.bin .add (.t 176) (.c (.int .i64 1))),oS 15 (.mv (.t 177))]) (.seq (.reg none [oS 178 (.mv (.t 16)),oS 179 (.bin .add (.t 178) (.c (.int .i64 1))),oS 16 (.mv (.t 179))]) (.seq (.reg none [oS 180 (.mv (.t 16)),oS 181 (.mv (.t 15)),oS 182 (.bin .shr (.t 181) (.c (.int .u64 4))),oS 183 (.bin .add (.c (.int .i64 4)) (.t 182)),oS 184 (.bin .geq (.t 180) (.t 183)),oS 185 (.mv (.t 184)),oG 186 (.mv (.t 15)) 185,oG 187 (.mv (.t 17)) 185,oG 188 (.bin .lss (.t 186) (.t 187)) 185,oS 189 (.pick (.t 185) (.t 188) (.c (.bool false)))]) (.cond (.t 189) (.seq (.reg none [oS 190 (.mv (.t 0)),oS 191 (.mv (.t 15)),oS 192 (.sl 1 (.t 190) (some (.t 191)) none),oS 193 (.mv (.t 1)),oS 194 (.call 133 [(.t 192),(.t 193)]),oS 19 (.mv (.t 194))]) (.seq (.seq (.reg none [oS 195 (.mv (.t 19)),oS 196 (.bin .lss (.t 195) (.c (.int .i64 0)))]) (.cond (.t 196) (.seq (.reg none [oS 4 (.mv (.c (.int .i64 (-1))))]) .ret) .skip)) (.seq (.reg none [oS 197 (.mv (.t 15)),oS 198 (.mv (.t 19)),oS 199 (.bin .add (.t 197) (.t 198)),oS 4 (.mv (.t 199))]) .ret))) .skip))))))))
def t_bidx_0:ACode:=(.seq (.reg none [oS 4 (.mv (.c (.int .i64 (-1))))]) .ret)
def t_bidx_1:ACode:=(.seq (.reg none [oS 125 (.mv (.t 1)),oS 126 (.ia 1 (.int .u8 0) (.t 125) (.c (.int .i64 0))),oS 127 (.ld (.one (.int .u8 0)) (.t 126)),oS 13 (.mv (.t 127))]) (.seq (.reg none [oS 128 (.mv (.t 1)),oS 129 (.ia 1 (.int .u8 0) (.t 128) (.c (.int .i64 1))),oS 130 (.ld (.one (.int .u8 0)) (.t 129)),oS 14 (.mv (.t 130))]) (.seq (.reg none [oS 15 (.mv (.c (.int .i64 0)))]) (.seq (.reg none [oS 16 (.mv (.c (.int .i64 0)))]) (.seq (.reg none [oS 131 (.mv (.t 0)),oS 132 (.len none false (.t 131)),oS 133 (.mv (.t 5)),oS 134 (.bin .sub (.t 132) (.t 133)),oS 135 (.bin .add (.t 134) (.c (.int .i64 1))),oS 17 (.mv (.t 135))]) (.seq (.block 3 (.loop b_bidx_1)) t_bidx_0))))))
def c_bidx:ACode:=(.seq (.reg none [oS 4 (.mv (.c (.int .i64 0)))]) (.seq (.reg none [oS 20 (.mv (.t 1)),oS 21 (.len none false (.t 20)),oS 5 (.mv (.t 21))]) (.seq (.block 0 (.seq (.reg none [oS 23 (.mv (.t 5)),oS 24 (.bin .eql (.t 23) (.c (.int .i64 0))),oS 22 (.mv (.t 24))]) (.cond (.t 22) (.seq (.reg none [oS 4 (.mv (.c (.int .i64 0)))]) .ret) (.seq (.reg none [oS 26 (.mv (.t 5)),oS 27 (.bin .eql (.t 26) (.c (.int .i64 1))),oS 25 (.mv (.t 27))]) (.cond (.t 25) (.seq (.reg none [oS 28 (.mv (.t 0)),oS 29 (.mv (.t 1)),oS 30 (.ia 1 (.int .u8 0) (.t 29) (.c (.int .i64 0))),oS 31 (.ld (.one (.int .u8 0)) (.t 30)),oS 32 (.call 129 [(.t 28),(.t 31)]),oS 4 (.mv (.t 32))]) .ret) (.seq (.reg none [oS 34 (.mv (.t 5)),oS 35 (.mv (.t 0)),oS 36 (.len none false (.t 35)),oS 37 (.bin .eql (.t 34) (.t 36)),oS 33 (.mv (.t 37))]) (.cond (.t 33) (.seq (.seq (.reg none [oS 38 (.mv (.t 1)),oS 39 (.mv (.t 0)),oS 40 (.call 130 [(.t 38),(.t 39)])]) (.cond (.t 40) (.seq (.reg none [oS 4 (.mv (.c (.int .i64 0)))]) .ret) .skip)) (.seq (.reg none [oS 4 (.mv (.c (.int .i64 (-1))))]) .ret)) (.seq (.reg none [oS 42 (.mv (.t 5)),oS 43 (.mv (.t 0)),oS 44 (.len none false (.t 43)),oS 45 (.bin .gtr (.t 42) (.t 44)),oS 41 (.mv (.t 45))]) (.cond (.t 41) (.seq (.reg none [oS 4 (.mv (.c (.int .i64 (-1))))]) .ret) (.seq (.reg none [oS 47 (.mv (.t 5)),oS 48 (.ld (.one (.int .i64 0)) (.c (.con (.pointer (some ⟨0,0,none⟩))))),oS 49 (.bin .leq (.t 47) (.t 48)),oS 46 (.mv (.t 49))]) (.cond (.t 46) (.seq (.seq (.reg none [oS 50 (.mv (.t 0)),oS 51 (.len none false (.t 50)),oS 52 (.bin .leq (.t 51) (.c (.int .i64 64)))]) (.cond (.t 52) (.seq (.reg none [oS 53 (.mv (.t 0)),oS 54 (.mv (.t 1)),oS 55 (.call 131 [(.t 53),(.t 54)]),oS 4 (.mv (.t 55))]) .ret) .skip)) (.seq (.reg none [oS 56 (.mv (.t 1)),oS 57 (.ia 1 (.int .u8 0) (.t 56) (.c (.int .i64 0))),oS 58 (.ld (.one (.int .u8 0)) (.t 57)),oS 6 (.mv (.t 58))]) (.seq (.reg none [oS 59 (.mv (.t 1)),oS 60 (.ia 1 (.int .u8 0) (.t 59) (.c (.int .i64 1))),oS 61 (.ld (.one (.int .u8 0)) (.t 60)),oS 7 (.mv (.t 61))]) (.seq (.reg none [oS 8 (.mv (.c (.int .i64 0)))]) (.seq (.reg none [oS 62 (.mv (.t 0)),oS 63 (.len none false (.t 62)),oS 64 (.mv (.t 5)),oS 65 (.bin .sub (.t 63) (.t 64)),oS 66 (.bin .add (.t 65) (.c (.int .i64 1))),oS 9 (.mv (.t 66))]) (.seq (.reg none [oS 10 (.mv (.c (.int .i64 0)))]) (.seq (.block 1 (.loop b_bidx_0)) (.seq (.reg none [oS 4 (.mv (.c (.int .i64 (-1))))]) .ret)))))))) .skip))))))))))) t_bidx_1)))
def r_bidx:List ARes:=[(.t 4)]
theorem s_bidx:slimF Tryz.prog Tryz.f91=some (c_bidx,r_bidx):=by kernel_rfl
open Go.Shelf in
set_option maxHeartbeats 1000000 in
set_option maxRecDepth 100000 in
theorem ib_nil {P:Program} {ρ:Ren} (L:Lays.n187 P ρ) (c:Nat) (cv:Int) (w:World) :
  Calls P (ρ.f 187) #[.slice none 0 c,.int .u8 cv] w fun e w' => e=.returned (.int .i64 (-1))∧w' = w:=by
 have t3:=L.t3; have t5:=L.t5; have t37:=L.t37
 have a3:=L.a3; have a5:=L.a5; have a37:=L.a37
 have mixed:=L.mixed; have z3:=L.z3; have v3:=L.v3; have z5:=L.z5; have v5:=L.v5; have z37:=L.z37; have v37:=L.v37
 go_enter L.f187,Body.n187_ntmps ρ
 go_wp2
 rw [run_callFunc_extern L.f255 (by kernel_rfl) (by kernel_rfl) (by kernel_rfl) (e:=Extern.BytealgIndexByte.indexByte) (by kernel_rfl),Lib.run_indexByteNil w 0 c cv]
 simp only [Result.andThen]
 rw [Oper.upon_value]
 go_wp2
 go_ret
 exact ⟨rfl,rfl⟩
theorem nums_back (l:List UInt8):Lib.bytesOf (l.map fun u=>(u.toNat:Int))=l:=by
 unfold Lib.bytesOf
 rw [List.map_map]
 conv=>rhs; rw [← List.map_id l]
 apply List.map_congr_left
 intro u _
 simp
theorem addr_add (b o i:Nat):(⟨b,o,none⟩:Addr).add i=⟨b,o+i,none⟩:=by unfold Addr.add; split <;> simp_all
def bibS:Spec:=fun xs hp=>match xs,hp with
 | [.sl 1 ps,.int .u8 c],[]=>some ⟨.int .i64 (Lib.indexByte (unB ps) c.toNat.toUInt8),[],ps=Bs (unB ps)⟩
 | _,_=>none
theorem bib_ok:FnOk Tryz.prog 129 bibS:=by
 refine fnok_of_calls fun xs0 hp r hs hp' => ?_
 unfold bibS at hs
 split at hs
 ·rename_i ps c
  injection hs with hs; subst hs
  refine ⟨rfl,rfl,fun w S ρ args hS ha=>?_⟩
  obtain ⟨v,vs,rfl,hv,hr⟩:=ha.get _ _ rfl
  obtain ⟨u,us,rfl,hu,hr⟩:=hr.get _ _ rfl
  obtain rfl:=hr.none
  obtain rfl:=hu.int
  have p1:ps=Bs (unB ps):=hp'
  generalize unB ps=l at *
  subst p1
  obtain ⟨A,n,cc,us,rfl,hM⟩:=Mem.of_sl hv.sl
  obtain ⟨q1,q2⟩:=hM.rd
  have fin:∀ (e:Ending) (w' : World),(e=.returned (.int .i64 (Lib.indexByte l c.toNat.toUInt8))∧w' = w)→∃ v,e=.returned v∧Below w.heap.size w w' ∧ ∀ (w' : World) (S:Nat→Prop) (ρ:Rho),Vl w' S ρ (.int .i64 (Lib.indexByte l c.toNat.toUInt8)) v:=by
   rintro e w' ⟨rfl,rfl⟩
   exact ⟨_,rfl,Below.refl _ _,fun _ _ _=>Vl.int' _ _⟩
  cases A with
  | none =>
   have hl:l=[]:=by
    cases l with
    | nil=>rfl
    | cons a l=>obtain ⟨b,o,h,_⟩:=q1 (by simp); cases h
   subst hl
   obtain rfl:n=0:=by simpa using q2
   exact (ib_nil Tryz.lays187 cc c w).mono fun e w' h=>fin e w' h
  | some a =>
   refine (Tryz.bytes_IndexByte_at a n cc (l.map fun u=>(u.toNat:Int)) c w (by rw [List.length_map]; exact q2.symm) (fun i hi=>?_)).mono fun e w' h=>fin e w' (by rw [nums_back] at h; exact h)
   obtain ⟨b,o,h,hc⟩:=q1 (by omega)
   injection h with h; subst h
   rw [addr_add,hc i (by omega)]
   simp [at8,List.getD_eq_getElem?_getD,show i<l.length by omega]
 ·cases hs
def bidxS:Spec:=fun xs hp=>match xs,hp with
 | [.sl 1 ps,.sl 1 [.int .u8 c]],[]=>some ⟨.int .i64 (Lib.index (unB ps) [c.toNat.toUInt8]),[],ps=Bs (unB ps)⟩
 | _,_=>none
set_option maxRecDepth 8000 in
theorem bidx_ok:FnOk Tryz.prog 91 bidxS:=by
 refine fn_slim2 Tryz.func91 s_bidx (Φ:=phiL [(129,[],bibS)]) (phi_cons bib_ok (by kernel_rfl) phi_nil) ?_
 intro xs hp r hs hp'
 unfold bidxS at hs
 split at hs
 ·rename_i ps c
  injection hs with hs; subst hs
  refine ⟨len_le (by kernel_rfl),?_⟩
  rw [Lib.index_one]
  simp only [c_bidx,r_bidx,bibS,go_sem,reduceDiv,reduceMod,↓reduceIte,reduceAdd,Int.reduceEq,Int.reduceLT,Int.reduceLE,Int.reduceToNat]
  exact hp'
 ·cases hs
def bcutR (l:List UInt8) (c:UInt8):AV:=if 0≤Lib.index l [c] then .tup [.sl 1 (Bs (Lib.cut l [c]).1),.sl 1 (Bs (Lib.cut l [c]).2.1),.bool true] else .tup [.sl 1 (Bs l),.con (.slice none 0 0),.bool false]
def bcutS:Spec:=fun xs hp=>match xs,hp with
 | [.sl 1 ps,.own 0 v],[.row e 1 rv [.int .u8 c]]=>some ⟨bcutR (unB ps) c.toNat.toUInt8,[.row e 1 rv [.int .u8 c]],ps=Bs (unB ps)∧v=rv∧(unB ps).length≤1000000000⟩
 | _,_=>none
theorem cut_ix (l:List UInt8) (c:UInt8):(0≤Lib.index l [c])=((Lib.cut l [c]).2.2=true):=by
 unfold Lib.cut
 by_cases h:0≤Lib.index l [c]
 ·rw [if_pos h]; simp [h]
 ·rw [if_neg h]; simp [h]
theorem bcutR_t {l:List UInt8} {c:UInt8} (h:(Lib.cut l [c]).2.2=true):bcutR l c=.tup [.sl 1 (Bs (Lib.cut l [c]).1),.sl 1 (Bs (Lib.cut l [c]).2.1),.bool true]:=if_pos (by rw [cut_ix]; exact h)
theorem bcutR_f {l:List UInt8} {c:UInt8} (h:(Lib.cut l [c]).2.2=false):bcutR l c=.tup [.sl 1 (Bs l),.con (.slice none 0 0),.bool false]:=if_neg (by rw [cut_ix,h]; simp)
set_option maxRecDepth 8000 in
theorem bcut_ok:FnOk Tryz.prog 45 bcutS:=by
 refine fn_slim2 Tryz.func45 s_bcut (Φ:=phiL [(91,[],bidxS)]) (phi_cons bidx_ok (by kernel_rfl) phi_nil) ?_
 intro xs hp r hs hp'
 unfold bcutS at hs
 split at hs
 ·rename_i ps v e rv c
  injection hs with hs; subst hs
  obtain ⟨h1,h2,h3⟩:=hp'
  generalize unB ps=l at *
  subst h1 h2
  refine ⟨len_le (by kernel_rfl),?_⟩
  by_cases h0:0≤Lib.index l [c.toNat.toUInt8]
  ·have c1:decide (0≤Lib.index l [c.toNat.toUInt8])=true:=decide_eq_true h0
   have hr:=Lib.index_room l [c.toNat.toUInt8] h0
   simp only [List.length_singleton] at hr
   obtain ⟨i,hi⟩:=Int.eq_ofNat_of_zero_le h0
   have hcut:Lib.cut l [c.toNat.toUInt8]=(l.take i,l.drop (i+1),true):=by unfold Lib.cut; rw [if_pos h0,hi]; rfl
   have hR:bcutR l c.toNat.toUInt8=.tup [.sl 1 (Bs (l.take i)),.sl 1 (Bs (l.drop (i+1))),.bool true]:=by rw [bcutR_t (by rw [hcut]),hcut]
   rw [hi] at hr c1
   have e1:((i:Int)+1).toNat=i+1:=by omega
   have e2:(Bs l).take l.length=Bs l:=List.take_of_length_le (by rw [Bs_length]; omega)
   have e3:(Bs l).take i=Bs (l.take i):=by simp [Bs]
   have e4:(Bs l).drop (i+1)=Bs (l.drop (i+1)):=by simp [Bs]
   simp only [c_bcut,r_bcut,bidxS,unB_Bs,hi,c1,e1,e2,e3,e4,hR,Int.toNat_natCast,Bs_len,go_sem,reduceDiv,reduceMod,↓reduceIte,Nat.reduceLT,reduceAdd,reduceCtorEq,Int.reduceLE,Int.reduceToNat]
   refine ⟨⟨by omega,by omega⟩,by (first | omega | (simp only [inI]; omega)),?_⟩
   (repeat' apply And.intro) <;> first | omega | trivial
  ·have c1:decide (0≤Lib.index l [c.toNat.toUInt8])=false:=decide_eq_false h0
   have hR:bcutR l c.toNat.toUInt8=.tup [.sl 1 (Bs l),.con (.slice none 0 0),.bool false]:=if_neg h0
   simp only [c_bcut,r_bcut,bidxS,unB_Bs,c1,hR,go_sem,reduceDiv,reduceMod,↓reduceIte,Nat.reduceLT,reduceAdd]
 ·cases hs
end Go.Proofs.YtakolikdebfkeaaGreatDoor
