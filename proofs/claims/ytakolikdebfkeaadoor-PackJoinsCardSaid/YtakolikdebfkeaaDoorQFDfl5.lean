import Derived.Test.YtakolikdebfkeaaDoorQNumLaw
import Derived.Test.YtakolikdebfkeaaDoorQAMS
import Derived.Test.YtakolikdebfkeaaDoorQFPk1
import Derived.Test.YtakolikdebfkeaaDoorQParse
import Derived.Lib.Bytealg
import Derived.KernelRfl
import Derived.Test.YtakolikdebfkeaaDoorProg
import Derived.Shelf.Strings.Builder1
import Derived.Laws.EntriesVeiled
import Derived.Shelf.Strconv.Itoa0
import Derived.Shelf.LaysM
import Derived.Shelf.Strconv.Itoa3
import Derived.Shelf.LaysC
import Derived.Shelf.Strconv.AtoiAll
import Derived.Shelf.Bytes.SlIndexAt
import Derived.Laws.BitsAll
import Derived.Test.YtakolikdebfkeaaDoorQShaSum
open Nat (reduceDiv reduceMod reduceSub reduceAdd reduceLeDiff reduceEqDiff)
set_option linter.all false
namespace Go.Proofs.YtakolikdebfkeaaDoor
open Go.RowKit
def ddistS:Spec:=fun xs hp=>match xs,hp with
 | [.ref 0 0 0,.int .i64 m],[.cells t [(1,.own 1 v),(1,.int .i64 n)],.row 5 1 rv ys]=>some ⟨.tup [],dbQ t (dW n ys ++ (bitsM 5 (distS m.toNat).1 ++ bitsN (distS m.toNat).2.1 (distS m.toNat).2.2)),dOk v rv n ys∧n≤8000000000∧1≤m∧m≤32768⟩
 | _,_=>none
set_option maxRecDepth 8000 in
theorem ddist_ok:FnOk Tryd.prog 86 ddistS:=by
 refine fn_slim2 Tryd.func86 s_ddist phD_ok ?_
 intro xs hp r hs hp'
 unfold ddistS at hs
 split at hs
 ·rename_i m t v n rv ys
  injection hs with hs; subst hs
  obtain ⟨⟨h1,h2,rfl,h3,h4⟩,h5,h6,h7⟩:=hp'
  generalize dW n ys=W at *
  subst h1 h2 h3
  obtain ⟨k,rfl⟩:∃ p:Nat,m=((p+1:Nat):Int):=⟨m.toNat - 1,by omega⟩
  simp only [Int.toNat_natCast]
  have hW:=dOk_W W (by omega)
  refine ⟨len_le (by kernel_rfl),?_⟩
  have e1:((k+1:Nat):Int) - 1=(k:Int):=by omega
  by_cases k4:k<4
  ·have c3:decide ((k:Int)<4)=true:=decide_eq_true (by omega)
   have q1:distS (k+1)=(k,0,0):=by unfold distS; rw [Nat.add_sub_cancel,if_pos k4]
   simp only [c_ddist,r_ddist,c3,e1,q1,dcodeS,dbQ,dW_pack,bitsN_zero,List.append_nil,Int.toNat_natCast,Int.reduceToNat,go_sem,reduceDiv,reduceMod,↓reduceIte,reduceEqDiff,Nat.reduceBEq,reduceSub,Nat.reduceLT,reduceAdd,reduceLeDiff,reduceCtorEq,Int.reduceEq,Int.reduceNe,Int.reduceLT,Int.reduceLE,Int.reduceToNat]
   exact ⟨by (first | omega | (simp only [lenOk,bytesOk,inI,IntKind.bits,List.length_append,Bs_len,List.length_cons,List.length_nil,List.length_map,List.length_take,List.length_drop,List.length_replicate]; omega)),hW,by omega,by omega,by omega⟩
  ·have c3:decide ((k:Int)<4)=false:=decide_eq_false (by omega)
   simp only [c_ddist,c3,e1,dbQ,go_sem,reduceDiv,reduceMod,↓reduceIte,reduceEqDiff,Nat.reduceBEq,reduceSub,Nat.reduceLT,reduceAdd,reduceLeDiff,reduceCtorEq,Int.reduceEq,Int.reduceNe,Int.reduceLT,Int.reduceLE,Int.reduceToNat]
   refine ⟨by (first | omega | (simp only [lenOk,bytesOk,inI,IntKind.bits,List.length_append,Bs_len,List.length_cons,List.length_nil,List.length_map,List.length_take,List.length_drop,List.length_replicate]; omega)),?_⟩
   refine loop2P [] [0,4,5] [0,1] (fun i:Nat=>⟨[(0,.ref 0 0 0),(4,.int .i64 (k:Int)),(5,.int .i64 (i:Int))],[.cells t [(1,.own 1 (verW W)),(1,.int .i64 (W.length:Int))],.row 5 1 (verW W) (Bs (packW W))]⟩)
    (fun i=>i≤moreN 4 15 k) (fun i=>15 - i) 0 (by rfl) (Nat.zero_le _) ⟨rfl,by rfl⟩ (fun i hi R hR=>?_)
   obtain ⟨m1,m2,m3⟩:=more_ok 4 (by omega) 15 k (by omega)
   obtain ⟨a1,a2⟩:=more_at (lim:=4) (f:=15) (k:=k) (i:=i) (by omega) rfl (by omega) hi
   have e2:=shr_nat k i
   by_cases h8:4≤k / 2 ^ i
   ·have c2:decide ((4:Int)≤((k / 2 ^ i:Nat):Int))=true:=decide_eq_true (by omega)
    have:=a1 h8
    simp only [b_ddist_0,c2,e2,go_sem,reduceDiv,reduceMod,↓reduceIte,reduceEqDiff,Nat.reduceBEq,reduceSub,Nat.reduceLT,reduceAdd,reduceLeDiff,reduceCtorEq,Int.reduceEq,Int.reduceNe,Int.reduceLT,Int.reduceLE,Int.reduceToNat]
    exact ⟨by omega,by (first | omega | (simp only [lenOk,bytesOk,inI,IntKind.bits,List.length_append,Bs_len,List.length_cons,List.length_nil,List.length_map,List.length_take,List.length_drop,List.length_replicate]; omega)),hR _ (i+1) (by omega) (by omega) rfl⟩
   ·have c2:decide ((4:Int)≤((k / 2 ^ i:Nat):Int))=false:=decide_eq_false (by omega)
    have hM:=a2 (by omega)
    have q1:distS (k+1)=(2 * (i+1)+k / 2 ^ i % 2,i,k % 2 ^ i):=by unfold distS; rw [Nat.add_sub_cancel,if_neg (by omega),← hM]
    have e4:=and1G (k / 2 ^ i) (Nat.lt_of_le_of_lt (Nat.div_le_self _ _) (by omega))
    have e5:=andM k i (by omega) (by omega)
    have e6:(2:Int) * ((i:Int)+1)+((k / 2 ^ i % 2:Nat):Int)=((2 * (i+1)+k / 2 ^ i % 2:Nat):Int):=by omega
    simp only [b_ddist_0,t_ddist_0,r_ddist,c2,e2,e4,e5,e6,q1,dcodeS,dnumS,dbQ,dW_pack,← List.append_assoc,Int.one_mul,Int.toNat_natCast,Int.reduceToNat,go_sem,reduceDiv,reduceMod,↓reduceIte,reduceEqDiff,Nat.reduceBEq,reduceSub,Nat.reduceLT,reduceAdd,reduceLeDiff,reduceCtorEq,Int.reduceEq,Int.reduceNe,Int.reduceLT,Int.reduceLE,Int.reduceToNat]
    have h4' : 2≤k / 2 ^ i:=by have:=m3 (by omega); rw [← hM] at this; omega
    have h5' := Nat.div_mul_le_self k (2 ^ i)
    have h6' := Nat.mul_le_mul_right (2 ^ i) h4'
    have h7' : i≤13:=by
     rcases Nat.lt_or_ge i 14 with h | h
     ·omega
     ·have:(2:Nat) ^ 14≤2 ^ i:=Nat.pow_le_pow_right (by omega) h
      omega
    have h2i:(2:Nat) ^ i≤2 ^ 13:=Nat.pow_le_pow_right (by omega) h7'
    have hz:(2:Int) ^ i=((2 ^ i:Nat):Int):=by push_cast; rfl
    have hmod:=Nat.mod_lt k (Nat.two_pow_pos i)
    have hp2:=Nat.two_pow_pos i
    have hWl:(W ++ bitsM 5 (2 * (i+1)+k / 2 ^ i % 2)).length≤W.length+5:=by rw [List.length_append,bitsM_length]; omega
    have hd:=dOk_W (W ++ bitsM 5 (2 * (i+1)+k / 2 ^ i % 2)) (by omega)
    have hi1:inI ((2:Int) ^ i):=by rw [hz]; generalize 2 ^ i=z at *; (first | omega | (simp only [lenOk,bytesOk,inI,IntKind.bits,List.length_append,Bs_len,List.length_cons,List.length_nil,List.length_map,List.length_take,List.length_drop,List.length_replicate]; omega))
    have hi2:inI ((2:Int) ^ i - 1):=by rw [hz]; generalize 2 ^ i=z at *; (first | omega | (simp only [lenOk,bytesOk,inI,IntKind.bits,List.length_append,Bs_len,List.length_cons,List.length_nil,List.length_map,List.length_take,List.length_drop,List.length_replicate]; omega))
    exact ⟨by omega,by (first | omega | (simp only [lenOk,bytesOk,inI,IntKind.bits,List.length_append,Bs_len,List.length_cons,List.length_nil,List.length_map,List.length_take,List.length_drop,List.length_replicate]; omega)),by (first | omega | (simp only [lenOk,bytesOk,inI,IntKind.bits,List.length_append,Bs_len,List.length_cons,List.length_nil,List.length_map,List.length_take,List.length_drop,List.length_replicate]; omega)),by omega,by (first | omega | (simp only [lenOk,bytesOk,inI,IntKind.bits,List.length_append,Bs_len,List.length_cons,List.length_nil,List.length_map,List.length_take,List.length_drop,List.length_replicate]; omega)),⟨hW,by omega,by omega,by omega⟩,⟨by omega,hi1⟩,hi2,hd,by omega,by omega,by omega,by omega,by omega⟩
 ·cases hs
theorem getM_putM:∀ (es:List (MK × AV)) (k k' : MK) (x:AV),getM (putM es k x) k' = if k=k' then some x else getM es k'
 | [],k,k',x=>by simp only [putM,getM]
 | (q,y) :: r,k,k',x=>by
  simp only [putM]
  by_cases h:q=k
  ·subst h
   rw [if_pos rfl]
   simp only [getM]
   by_cases h2:q=k'
   ·rw [if_pos h2,if_pos h2]
   ·rw [if_neg h2,if_neg h2,if_neg h2]
  ·rw [if_neg h]
   simp only [getM]
   by_cases h2:q=k'
   ·rw [if_pos h2,if_neg (fun e=>h (h2.trans e.symm)),if_pos h2]
   ·rw [if_neg h2,getM_putM r k k' x,if_neg h2]
def k3 (b:List UInt8) (p:Nat):List UInt8:=[b.getD p 0,b.getD (p+1) 0,b.getD (p+2) 0]
def seenM (b:List UInt8):Nat→List (MK × AV)
 | 0=>[]
 | k+1=>if k+3≤b.length then putM (seenM b k) (.a (k3 b k)) (.int .i64 (k:Int)) else seenM b k
theorem same3_k3 (b:List UInt8) (p q:Nat):same3 b p q=decide (k3 b p=k3 b q):=by
 unfold same3 k3
 simp only [List.cons.injEq,and_true,Bool.decide_and,Bool.and_assoc]
theorem getM_seen (b:List UInt8) (q:Nat):∀ k,k+2≤b.length→getM (seenM b k) (.a (k3 b q))=(lastP b q k).map fun (p:Nat)=>AV.int .i64 (p:Int)
 | 0,_=>rfl
 | k+1,h=>by
  unfold seenM lastP
  rw [if_pos (by omega),getM_putM,same3_k3]
  by_cases e:k3 b k=k3 b q
  ·rw [if_pos (by rw [e]),if_pos (by simpa using e)]; rfl
  ·rw [if_neg (fun h=>e (by injection h)),if_neg (by simpa using e),getM_seen b q k (by omega)]
theorem k3_take (b:List UInt8) (p:Nat) (h:p+3≤b.length):(b.drop p).take 3=k3 b p:=by
 unfold k3
 refine List.ext_getElem? fun i=>?_
 rw [List.getElem?_take]
 by_cases hi:i<3
 ·rw [if_pos hi,List.getElem?_drop]
  match i,hi with
  | 0,_=>simp [List.getElem?_eq_getElem (show p<b.length by omega),List.getD_eq_getElem?_getD]
  | 1,_=>simp [List.getElem?_eq_getElem (show p+1<b.length by omega),List.getD_eq_getElem?_getD]
  | 2,_=>simp [List.getElem?_eq_getElem (show p+2<b.length by omega),List.getD_eq_getElem?_getD]
 ·rw [if_neg hi,List.getElem?_eq_none (by simp; omega)]
def dnum0S:Spec:=fun xs hp=>match xs,hp with
 | [.ref 0 0 0,.int .i64 k,.int .i64 m],[.cells t [(1,.con (.slice none 0 0)),(1,.int .i64 0)]]=>some ⟨.tup [],dbQ t (bitsN m.toNat k.toNat),0≤k∧k<4294967296∧0≤m∧m≤40⟩
 | _,_=>none
set_option maxRecDepth 8000 in
theorem dnum0_ok:FnOk Tryd.prog 84 dnum0S:=by
 refine fn_slim2 Tryd.func84 s_dnum (Φ:=phiL [(110,[],dputS)]) (phi_cons dput_ok (by kernel_rfl) phi_nil) ?_
 intro xs hp r hs hp'
 unfold dnum0S at hs
 split at hs
 ·rename_i k m t
  injection hs with hs; subst hs
  obtain ⟨h6,h7,h8,h9⟩:=hp'
  obtain ⟨k,rfl⟩:∃ p:Nat,k=p:=⟨k.toNat,by omega⟩
  obtain ⟨m,rfl⟩:∃ p:Nat,m=p:=⟨m.toNat,by omega⟩
  simp only [Int.toNat_natCast]
  refine ⟨len_le (by kernel_rfl),?_⟩
  simp only [c_dnum,dbQ,go_sem,reduceDiv,reduceMod,↓reduceIte,reduceEqDiff,Nat.reduceBEq,reduceSub,Nat.reduceLT,reduceAdd,reduceLeDiff,reduceCtorEq,Int.reduceEq,Int.reduceNe,Int.reduceLT,Int.reduceLE,Int.reduceToNat]
  refine loop2P [(4096,5,1)] [0,1,7,8] [0,1] (fun i:Nat=>⟨[(0,.ref 0 0 0),(1,.int .i64 (k:Int)),(7,.int .i64 (m:Int)),(8,.int .i64 (i:Int))],[.cells t [(1,.own 1 (verW (bitsN i k))),(1,.int .i64 ((bitsN i k).length:Int))],.row 5 1 (verW (bitsN i k)) (Bs (packW (bitsN i k)))]⟩)
   (fun i=>i≤m) (fun i=>m - i) 0 (by simp only [bitsN_zero,Int.cast_ofNat_Int,go_sem,reduceDiv,reduceMod,↓reduceIte,reduceEqDiff,Nat.reduceBEq,reduceSub,Nat.reduceLT,reduceAdd,reduceLeDiff,reduceCtorEq,Int.reduceEq,Int.reduceNe,Int.reduceLT,Int.reduceLE,Int.reduceToNat]; rfl) (Nat.zero_le _) ⟨rfl,by rfl⟩ (fun i hi R hR=>?_)
  have hil:(bitsN i k).length=i:=bitsN_length i k
  by_cases him:i<m
  ·have c1:decide ((i:Int)<(m:Int))=true:=decide_eq_true (by omega)
   have e1:=shr_nat k i
   have hk:k / 2 ^ i<9223372036854775808:=Nat.lt_of_le_of_lt (Nat.div_le_self _ _) (by omega)
   have e2:=and1G (k / 2 ^ i) hk
   have hbd:=bit_dec k i
   have hsn:=bitsN_succ i k
   simp only [b_dnum_0,c1,e1,e2,dputS,dbQ,dW_pack,hbd,go_sem,reduceDiv,reduceMod,↓reduceIte,reduceEqDiff,Nat.reduceBEq,reduceSub,Nat.reduceLT,reduceAdd,reduceLeDiff,reduceCtorEq,Int.reduceEq,Int.reduceNe,Int.reduceLT,Int.reduceLE,Int.reduceToNat]
   refine ⟨by omega,⟨dOk_W _ (by omega),by omega⟩,by (first | omega | (simp only [lenOk,bytesOk,inI,IntKind.bits,List.length_append,Bs_len,List.length_cons,List.length_nil,List.length_map,List.length_take,List.length_drop,List.length_replicate]; omega)),hR _ (i+1) (by omega) (by omega) ?_⟩
   rw [hsn]
   rfl
  ·have c1:decide ((i:Int)<(m:Int))=false:=decide_eq_false (by omega)
   obtain rfl:i=m:=by omega
   simp only [b_dnum_0,r_dnum,c1,go_sem,reduceDiv,reduceMod,↓reduceIte,reduceEqDiff,Nat.reduceBEq,reduceSub,Nat.reduceLT,reduceAdd,reduceLeDiff,reduceCtorEq,Int.reduceEq,Int.reduceNe,Int.reduceLT,Int.reduceLE,Int.reduceToNat]
 ·cases hs
def intsM (es:List (MK × AV)):Prop:=∀ p∈es,∃ n,p.2=AV.int .i64 n
theorem ints_put {es:List (MK × AV)} {k:MK} {n:Int} (h:intsM es):intsM (putM es k (.int .i64 n)):=by
 induction es with
 | nil=>intro p hp; simp only [putM,List.mem_singleton] at hp; subst hp; exact ⟨n,rfl⟩
 | cons q r ih =>
  obtain ⟨k',y⟩:=q
  intro p hp
  simp only [putM] at hp
  split at hp
  ·rcases List.mem_cons.1 hp with rfl | hp
   ·exact ⟨n,rfl⟩
   ·exact h p (List.mem_cons_of_mem _ hp)
  ·rcases List.mem_cons.1 hp with rfl | hp
   ·exact h _ (List.mem_cons_self ..)
   ·exact ih (fun p hp=>h p (List.mem_cons_of_mem _ hp)) p hp
theorem ints_seen (b:List UInt8):∀ k,intsM (seenM b k)
 | 0=>fun p hp=>by cases hp
 | k+1=>by
  unfold seenM
  split
  ·exact ints_put (ints_seen b k)
  ·exact ints_seen b k
theorem ren_ints {σ:Nat→Option Nat} {es:List (MK × AV)} {ks:KS} (h:intsM es):renObj σ (.mp ks es)=some (.mp ks es):=by
 have:mapO (fun p:MK × AV=>(ren σ 4 p.2).map fun y=>(p.1,y)) es=some es:=by
  induction es with
  | nil=>rfl
  | cons q r ih =>
   obtain ⟨k',y⟩:=q
   obtain ⟨n,hn⟩:=h _ (List.mem_cons_self ..)
   simp only at hn
   subst hn
   have hi:=ih (fun p hp=>h p (List.mem_cons_of_mem _ hp))
   unfold mapO
   rw [hi]
   rfl
 show (mapO (fun p:MK × AV=>(ren σ 4 p.2).map fun y=>(p.1,y)) es).map (AObj.mp ks)=_
 rw [this]; rfl
theorem kp_mp {fr:List (List AV)} {slots:List Nat} {fr' : List (Nat × AV)} {T E:TypeId} {sz v:Nat} {xs:List AV} {ps:List (Nat × AV)} {ks:KS} {es:List (MK × AV)} (hes:intsM es)
  (h1:mapO (fun t=>(ren (posOf (List.range 3)) 4 (lk (flatF 0 fr) t)).map fun x=>(t,x)) slots=some fr') (h2:renObj (posOf (List.range 3)) (.cells T ps)=some (.cells T ps)) :
  kp slots 3 (toS ⟨fr,[.cells T ps,.row E sz v xs,.mp ks es]⟩)=some ⟨fr',[.cells T ps,.row E sz v xs,.mp ks es]⟩:=by
 have h3:lentO [.cells T ps,.row E sz v xs,.mp ks es] (List.range 3)=some [.cells T ps,.row E sz v xs,.mp ks es]:=by
  show mapO _ [0,1,2]=_
  unfold mapO
  simp only [List.getElem?_cons_zero,h2]
  unfold mapO
  simp only [List.getElem?_cons_zero,List.getElem?_cons_succ]
  unfold mapO
  simp only [List.getElem?_cons_zero,List.getElem?_cons_succ,ren_ints hes]
  rfl
 unfold kp
 show (match mapO (fun t=>(ren (posOf (List.range 3)) 4 (lk (flatF 0 fr) t)).map fun x=>(t,x)) slots,lentO [.cells T ps,.row E sz v xs,.mp ks es] (List.range 3) with
  | some fr,some hp=>some (⟨fr,hp⟩:St)
  | _,_=>none)=_
 rw [h1,h3]
theorem ent_mp {fr:List (List AV)} {slots:List Nat} {fr' : List (Nat × AV)} {T E:TypeId} {sz v:Nat} {xs:List AV} {ps:List (Nat × AV)} {ks:KS} {es:List (MK × AV)} {r:List AObj} (hes:intsM es)
  (h1:mapO (fun t=>(ren (posOf [0,1,2]) 4 (lk (flatF 0 fr) t)).map fun x=>(t,x)) slots=some fr') (h2:renObj (posOf [0,1,2]) (.cells T ps)=some (.cells T ps)) :
  ent [] slots [0,1,2] (toS ⟨fr,.cells T ps :: .row E sz v xs :: .mp ks es :: r⟩)=some ⟨fr',[.cells T ps,.row E sz v xs,.mp ks es]⟩:=by
 have h3:lentO (.cells T ps :: .row E sz v xs :: .mp ks es :: r) [0,1,2]=some [.cells T ps,.row E sz v xs,.mp ks es]:=by
  show mapO _ [0,1,2]=_
  unfold mapO
  simp only [List.getElem?_cons_zero,h2]
  unfold mapO
  simp only [List.getElem?_cons_zero,List.getElem?_cons_succ]
  unfold mapO
  simp only [List.getElem?_cons_zero,List.getElem?_cons_succ,ren_ints hes]
  rfl
 show (match mapO (fun t=>(ren (posOf [0,1,2]) 4 (lk (flatF 0 fr) t)).map fun x=>(t,x)) slots,lentO (.cells T ps :: .row E sz v xs :: .mp ks es :: r) [0,1,2] with
  | some fr,some hp=>some (⟨fr,hp⟩:St)
  | _,_=>none)=_
 rw [h1,h3]
def dfixW (b:List UInt8):List Bool:=fixW (toksF b b.length 0)
theorem moreN_le (lim:Nat):∀ f k,moreN lim f k≤f
 | 0,_=>Nat.le_refl _
 | f+1,k=>by
  unfold moreN
  have:=moreN_le lim f (k / 2)
  split <;> omega
theorem lenS_le (n:Nat):(lenS n).2.1≤8:=by
 unfold lenS
 split
 ·exact Nat.zero_le _
 ·split
  ·exact Nat.zero_le _
  ·exact moreN_le 8 8 _
theorem distS_le (n:Nat):(distS n).2.1≤15:=by
 unfold distS
 split
 ·exact Nat.zero_le _
 ·exact moreN_le 4 15 _
theorem cpy_le (n d:Nat):(tokB (.cpy n d)).length≤40:=by
 simp only [tokB,List.length_append,bitsN_length,bitsM_length]
 have:=signB_len (lenS n).1
 have:=lenS_le n
 have:=distS_le d
 omega
def dfix0S:Spec:=fun xs hp=>match xs,hp with
 | [.sl k ps],[]=>some ⟨.own 0 (verW (dfixW (unB ps))),[.row 5 1 (verW (dfixW (unB ps))) (Bs (packW (dfixW (unB ps))))],byOk k ps⟩
 | _,_=>none
theorem phFix_ok:PhiOk Tryd.prog (phiL [(84,[],dnum0S),(87,[],dsignS),(85,[],dlenS),(86,[],ddistS)]):=phi_cons dnum0_ok (by kernel_rfl) (phi_cons dsign_ok (by kernel_rfl) (phi_cons dlen_ok (by kernel_rfl) (phi_cons ddist_ok (by kernel_rfl) phi_nil)))
structure FxI where
 f:Nat
 at_:Nat
 W:List Bool
set_option maxRecDepth 8000 in
theorem dfix_step {Φ:Phi} {b:List UInt8} {at_ step:Nat} {W:List Bool} {s:S2} {Q:Exit→S2→Prop} (hb:b.length≤100000000) (h:at_+step≤b.length)
  (hk:ent [] [0,3,4,5,88,89] [0,1,2] (toS s)=some ⟨[(0,.sl 1 (Bs b)),(3,.ref 0 0 0),(4,.mpv 2),(5,.int .i64 (at_:Int)),(88,.int .i64 (step:Int)),(89,.int .i64 0)],[.cells 137 [(1,.own 1 (verW W)),(1,.int .i64 (W.length:Int))],.row 5 1 (verW W) (Bs (packW W)),.mp (.a 3) (seenM b at_)]⟩)
  (hQ:∀ s',kp [0,3,4,5] 3 (toS s')=some ⟨[(0,.sl 1 (Bs b)),(3,.ref 0 0 0),(4,.mpv 2),(5,.int .i64 ((at_+step:Nat):Int))],[.cells 137 [(1,.own 1 (verW W)),(1,.int .i64 (W.length:Int))],.row 5 1 (verW W) (Bs (packW W)),.mp (.a 3) (seenM b (at_+step))]⟩→Q (.exit 4) s'):loopQ2 0 (awp2 Φ 0 b_dfix_1) Q s:=by
 refine loop2P [] [0,3,4,5,88,89] [0,1,2] (fun i:Nat=>⟨[(0,.sl 1 (Bs b)),(3,.ref 0 0 0),(4,.mpv 2),(5,.int .i64 ((at_+i:Nat):Int)),(88,.int .i64 (step:Int)),(89,.int .i64 (i:Int))],[.cells 137 [(1,.own 1 (verW W)),(1,.int .i64 (W.length:Int))],.row 5 1 (verW W) (Bs (packW W)),.mp (.a 3) (seenM b (at_+i))]⟩) (fun i=>i≤step) (fun i=>step - i) 0 (by rw [hk]; rfl) (Nat.zero_le _) ⟨rfl,by rfl⟩ (fun i hi R hR=>?_)
 by_cases his:i<step
 ·have c1:decide ((i:Int)<(step:Int))=true:=decide_eq_true (by omega)
  by_cases h3:at_+i+3≤b.length
  ·have c2:decide (((at_+i:Nat):Int)+3≤(b.length:Int))=true:=decide_eq_true (by omega)
   have hkk:List.take 3 (List.drop (at_+i) (List.take b.length (Bs b)))=Bs (k3 b (at_+i)):=by
    rw [List.take_of_length_le (l:=Bs b) (by rw [Bs_length]; omega),← k3_take b (at_+i) h3]; simp [Bs]
   have hdl:(List.drop (at_+i) (List.take b.length (Bs b))).length=b.length - (at_+i):=by
    rw [List.take_of_length_le (l:=Bs b) (by rw [Bs_length]; omega),List.length_drop,Bs_length]
   have hk3:(k3 b (at_+i)).length=3:=rfl
   have hsn:seenM b (at_+(i+1))=putM (seenM b (at_+i)) (.a (k3 b (at_+i))) (.int .i64 ((at_+i:Nat):Int)):=by
    rw [← Nat.add_assoc]; show (if at_+i+3≤b.length then _ else _)=_; rw [if_pos h3]
   simp only [b_dfix_1,c1,c2,hkk,hdl,hk3,unB_Bs,unV_U,Int.toNat_natCast,Int.reduceToNat,Bs_len,go_sem,reduceDiv,reduceMod,↓reduceIte,reduceEqDiff,Nat.reduceBEq,reduceSub,Nat.reduceLT,reduceAdd,reduceLeDiff,reduceCtorEq,Int.reduceEq,Int.reduceNe,Int.reduceLT,Int.reduceLE,Int.reduceToNat]
   refine ⟨by (first | omega | (simp only [lenOk,bytesOk,inI,IntKind.bits,List.length_append,Bs_len,List.length_cons,List.length_nil,List.length_map,List.length_take,List.length_drop,List.length_replicate]; omega)),by omega,by omega,by (first | omega | (simp only [lenOk,bytesOk,inI,IntKind.bits,List.length_append,Bs_len,List.length_cons,List.length_nil,List.length_map,List.length_take,List.length_drop,List.length_replicate]; omega)),by (first | omega | (simp only [lenOk,bytesOk,inI,IntKind.bits,List.length_append,Bs_len,List.length_cons,List.length_nil,List.length_map,List.length_take,List.length_drop,List.length_replicate]; omega)),hR _ (i+1) (by omega) (by omega) ?_⟩
   rw [hsn]
   exact kp_mp (ints_put (ints_seen b _)) (by rfl) (by rfl)
  ·have c2:decide (((at_+i:Nat):Int)+3≤(b.length:Int))=false:=decide_eq_false (by omega)
   have hsn:seenM b (at_+(i+1))=seenM b (at_+i):=by
    rw [← Nat.add_assoc]; show (if at_+i+3≤b.length then _ else _)=_; rw [if_neg h3]
   simp only [b_dfix_1,c1,c2,Int.toNat_natCast,Int.reduceToNat,Bs_len,go_sem,reduceDiv,reduceMod,↓reduceIte,reduceEqDiff,Nat.reduceBEq,reduceSub,Nat.reduceLT,reduceAdd,reduceLeDiff,reduceCtorEq,Int.reduceEq,Int.reduceNe,Int.reduceLT,Int.reduceLE,Int.reduceToNat]
   refine ⟨by (first | omega | (simp only [lenOk,bytesOk,inI,IntKind.bits,List.length_append,Bs_len,List.length_cons,List.length_nil,List.length_map,List.length_take,List.length_drop,List.length_replicate]; omega)),by (first | omega | (simp only [lenOk,bytesOk,inI,IntKind.bits,List.length_append,Bs_len,List.length_cons,List.length_nil,List.length_map,List.length_take,List.length_drop,List.length_replicate]; omega)),by (first | omega | (simp only [lenOk,bytesOk,inI,IntKind.bits,List.length_append,Bs_len,List.length_cons,List.length_nil,List.length_map,List.length_take,List.length_drop,List.length_replicate]; omega)),hR _ (i+1) (by omega) (by omega) ?_⟩
   rw [hsn]
   exact kp_mp (ints_seen b _) (by rfl) (by rfl)
 ·have c1:decide ((i:Int)<(step:Int))=false:=decide_eq_false (by omega)
  obtain rfl:i=step:=by omega
  simp only [b_dfix_1,c1,go_sem,reduceDiv,reduceMod,↓reduceIte,reduceEqDiff,Nat.reduceBEq,reduceSub,Nat.reduceLT,reduceAdd,reduceLeDiff,reduceCtorEq,Int.reduceEq,Int.reduceNe,Int.reduceLT,Int.reduceLE,Int.reduceToNat]
  exact hQ _ (kp_mp (ints_seen b _) (by rfl) (by rfl))
set_option maxRecDepth 8000 in
set_option maxHeartbeats 4000000 in
theorem dfix0_ok:FnOk Tryd.prog 55 dfix0S:=by
 refine fn_slim2 Tryd.func55 s_dfix phFix_ok ?_
 intro xs hp r hs hp'
 unfold dfix0S at hs
 split at hs
 ·rename_i k ps
  injection hs with hs; subst hs
  obtain ⟨h1,h2,h3⟩:=hp'
  generalize unB ps=b at *
  subst h1 h2
  refine ⟨len_le (by kernel_rfl),?_⟩
  simp only [c_dfix,dnum0S,dbQ,Int.reduceToNat,go_sem,reduceDiv,reduceMod,↓reduceIte,reduceEqDiff,Nat.reduceBEq,reduceSub,Nat.reduceLT,reduceAdd,reduceLeDiff,reduceCtorEq,Int.reduceEq,Int.reduceNe,Int.reduceLT,Int.reduceLE,Int.reduceToNat]
  refine loop2P [] [0,3,4,5] [0,1,2] (fun i:FxI=>⟨[(0,.sl 1 (Bs b)),(3,.ref 0 0 0),(4,.mpv 2),(5,.int .i64 (i.at_:Int))],[.cells 137 [(1,.own 1 (verW i.W)),(1,.int .i64 (i.W.length:Int))],.row 5 1 (verW i.W) (Bs (packW i.W)),.mp (.a 3) (seenM b i.at_)]⟩) (fun i=>i.at_≤b.length∧b.length - i.at_≤i.f∧i.W ++ ((toksF b i.f i.at_).flatMap tokB ++ signB 256)=dfixW b∧i.W.length≤3+40 * i.at_) (fun i=>b.length - i.at_) ⟨b.length,0,bitsN 3 3⟩ (by rfl) ⟨Nat.zero_le _,by simp only; omega,rfl,by simp only [bitsN_length]; omega⟩ ⟨rfl,by rfl⟩ (fun i hi R hR=>?_)
  obtain ⟨f,at_,W⟩:=i
  obtain ⟨i1,i2,i3,i4⟩:=hi
  simp only at i1 i2 i3 i4
  have hWd:=dOk_W W (by omega)
  by_cases hal:at_<b.length
  ·have c1:decide ((at_:Int)<(b.length:Int))=true:=decide_eq_true (by omega)
   by_cases h3a:at_+3≤b.length
   ·have c2:decide ((at_:Int)+3≤(b.length:Int))=true:=decide_eq_true (by omega)
    have hkk:List.take 3 (List.drop at_ (List.take b.length (Bs b)))=Bs (k3 b at_):=by
     rw [List.take_of_length_le (l:=Bs b) (by rw [Bs_length]; omega),← k3_take b at_ h3a]; simp [Bs]
    have hdl:(List.drop at_ (List.take b.length (Bs b))).length=b.length - at_:=by
     rw [List.take_of_length_le (l:=Bs b) (by rw [Bs_length]; omega),List.length_drop,Bs_length]
    have hk3:(k3 b at_).length=3:=rfl
    have hgm:=getM_seen b at_ at_ (by omega)
    cases hlp:lastP b at_ at_ with
    | none =>
     rw [hlp] at hgm
     simp only [b_dfix_2,c1,c2,hkk,hdl,hk3,hgm,unB_Bs,unV_U,Option.map_none,Int.toNat_natCast,Int.reduceToNat,Bs_len,go_sem,reduceDiv,reduceMod,↓reduceIte,reduceEqDiff,Nat.reduceBEq,reduceSub,Nat.reduceLT,reduceAdd,reduceLeDiff,reduceCtorEq,Int.reduceEq,Int.reduceNe,Int.reduceLT,Int.reduceLE,Int.reduceToNat]
     refine ⟨by (first | omega | (simp only [lenOk,bytesOk,inI,IntKind.bits,List.length_append,Bs_len,List.length_cons,List.length_nil,List.length_map,List.length_take,List.length_drop,List.length_replicate]; omega)),by omega,by omega,?_⟩
     simp only [t_dfix_0,dsignS,dbQ,dW_pack,Int.toNat_natCast,Int.reduceToNat,Bs_len,go_sem,reduceDiv,reduceMod,↓reduceIte,reduceEqDiff,Nat.reduceBEq,reduceSub,Nat.reduceLT,reduceAdd,reduceLeDiff,reduceCtorEq,Int.reduceEq,Int.reduceNe,Int.reduceLT,Int.reduceLE,Int.reduceToNat]
     have hu:=(b.getD at_ 0).toNat_lt
     obtain ⟨f,rfl⟩:∃ g,f=g+1:=⟨f - 1,by omega⟩
     have htk:toksF b (f+1) at_=.lit (b.getD at_ 0) :: toksF b f (at_+1):=by
      show (if at_<b.length then tokS b at_ :: toksF b f (at_+stepT (tokS b at_)) else [])=_
      have:tokS b at_=.lit (b.getD at_ 0):=by unfold tokS; rw [if_pos h3a,hlp]
      rw [if_pos hal,this]; rfl
     have hsl:=signB_len (b.getD at_ 0).toNat
     refine ⟨by omega,by (first | omega | (simp only [lenOk,bytesOk,inI,IntKind.bits,List.length_append,Bs_len,List.length_cons,List.length_nil,List.length_map,List.length_take,List.length_drop,List.length_replicate]; omega)),⟨hWd,by omega,by omega,by omega⟩,dfix_step (at_:=at_) (step:=1) (W:=W ++ signB (b.getD at_ 0).toNat) h3 (by omega) (ent_mp (ints_seen b _) (by rfl) (by rfl)) (fun s' hs' => hR s' ⟨f,at_+1,W ++ signB (b.getD at_ 0).toNat⟩ ⟨by simp only; omega,by simp only; omega,by simp only; rw [← i3,htk,List.flatMap_cons]; simp only [List.append_assoc]; rfl,by simp only [List.length_append]; omega⟩ (by simp only; omega) hs')⟩
    | some p =>
     rw [hlp] at hgm
     have hpl:=lastP_lt hlp
     by_cases hfar:at_ - p≤32768
     ·have c5:decide ((at_:Int) - (p:Int)≤32768)=true:=decide_eq_true (by omega)
      simp only [b_dfix_2,c1,c2,c5,hkk,hdl,hk3,hgm,unB_Bs,unV_U,Option.map_some,Int.toNat_natCast,Int.reduceToNat,Bs_len,go_sem,reduceDiv,reduceMod,↓reduceIte,reduceEqDiff,Nat.reduceBEq,reduceSub,Nat.reduceLT,reduceAdd,reduceLeDiff,reduceCtorEq,Int.reduceEq,Int.reduceNe,Int.reduceLT,Int.reduceLE,Int.reduceToNat]
      refine ⟨by (first | omega | (simp only [lenOk,bytesOk,inI,IntKind.bits,List.length_append,Bs_len,List.length_cons,List.length_nil,List.length_map,List.length_take,List.length_drop,List.length_replicate]; omega)),by omega,by omega,by (first | omega | (simp only [lenOk,bytesOk,inI,IntKind.bits,List.length_append,Bs_len,List.length_cons,List.length_nil,List.length_map,List.length_take,List.length_drop,List.length_replicate]; omega)),by (first | omega | (simp only [lenOk,bytesOk,inI,IntKind.bits,List.length_append,Bs_len,List.length_cons,List.length_nil,List.length_map,List.length_take,List.length_drop,List.length_replicate]; omega)),?_⟩
      refine loop2P [] [0,3,4,5,6,7,8] [0,1,2] (fun n:Nat=>⟨[(0,.sl 1 (Bs b)),(3,.ref 0 0 0),(4,.mpv 2),(5,.int .i64 (at_:Int)),(6,.int .i64 (n:Int)),(7,.int .i64 ((at_:Int) - (p:Int))),(8,.int .i64 (p:Int))],[.cells 137 [(1,.own 1 (verW W)),(1,.int .i64 (W.length:Int))],.row 5 1 (verW W) (Bs (packW W)),.mp (.a 3) (seenM b at_)]⟩)
       (fun n=>n≤258∧at_+n≤b.length∧mlen b p at_ 258 0=mlen b p at_ (258 - n) n) (fun n=>258 - n) 0 (ent_mp (ints_seen b _) (by rfl) (by rfl)) ⟨by omega,by omega,rfl⟩ ⟨rfl,by rfl⟩ (fun n hn R2 hR2=>?_)
      obtain ⟨n1,n2,n3⟩:=hn
      by_cases hc:n<258∧at_+n<b.length∧b.getD (p+n) 0=b.getD (at_+n) 0
      ·have c6:decide ((n:Int)<258)=true:=decide_eq_true (by omega)
       have c7:decide ((at_:Int)+(n:Int)<(b.length:Int))=true:=decide_eq_true (by omega)
       have c8:decide (((b.getD (p+n) 0).toNat:Int)=((b.getD (at_+n) 0).toNat:Int))=true:=by rw [hc.2.2]; exact decide_eq_true rfl
       have e6:((p:Int)+(n:Int)).toNat=p+n:=by omega
       have e7:((at_:Int)+(n:Int)).toNat=at_+n:=by omega
       have hm:mlen b p at_ (258 - n) n=mlen b p at_ (258 - (n+1)) (n+1):=by
        rw [show 258 - n=(258 - (n+1))+1 by omega]; show (if _ then _ else _)=_; rw [if_pos hc]
       simp only [b_dfix_0,c6,c7,c8,e6,e7,Bs_len,go_sem,reduceDiv,reduceMod,↓reduceIte,reduceEqDiff,Nat.reduceBEq,reduceSub,Nat.reduceLT,reduceAdd,reduceLeDiff,reduceCtorEq,Int.reduceEq,Int.reduceNe,Int.reduceLT,Int.reduceLE,Int.reduceToNat]
       exact ⟨by (first | omega | (simp only [lenOk,bytesOk,inI,IntKind.bits,List.length_append,Bs_len,List.length_cons,List.length_nil,List.length_map,List.length_take,List.length_drop,List.length_replicate]; omega)),by (first | omega | (simp only [lenOk,bytesOk,inI,IntKind.bits,List.length_append,Bs_len,List.length_cons,List.length_nil,List.length_map,List.length_take,List.length_drop,List.length_replicate]; omega)),by omega,by (first | omega | (simp only [lenOk,bytesOk,inI,IntKind.bits,List.length_append,Bs_len,List.length_cons,List.length_nil,List.length_map,List.length_take,List.length_drop,List.length_replicate]; omega)),by omega,by (first | omega | (simp only [lenOk,bytesOk,inI,IntKind.bits,List.length_append,Bs_len,List.length_cons,List.length_nil,List.length_map,List.length_take,List.length_drop,List.length_replicate]; omega)),hR2 _ (n+1) ⟨by omega,by omega,by rw [n3,hm]⟩ (by omega) (kp_mp (ints_seen b _) (by rfl) (by rfl))⟩
      ·have hM:mlen b p at_ 258 0=n:=by
        rw [n3]
        rcases Nat.lt_or_ge n 258 with h | h
        ·rw [show 258 - n=(258 - (n+1))+1 by omega]; show (if _ then _ else _)=_; rw [if_neg hc]
        ·rw [show 258 - n=0 by omega]; rfl
       have hu:=(b.getD at_ 0).toNat_lt
       obtain ⟨f,rfl⟩:∃ g,f=g+1:=⟨f - 1,by omega⟩
       have e6:((p:Int)+(n:Int)).toNat=p+n:=by omega
       have e7:((at_:Int)+(n:Int)).toNat=at_+n:=by omega
       have hsl:=signB_len (b.getD at_ 0).toNat
       by_cases hn3:3≤n
       ·have c9:decide ((3:Int)≤(n:Int))=true:=decide_eq_true (by omega)
        have htk:toksF b (f+1) at_=.cpy n (at_ - p) :: toksF b f (at_+n):=by
         show (if at_<b.length then tokS b at_ :: toksF b f (at_+stepT (tokS b at_)) else [])=_
         have:tokS b at_=.cpy n (at_ - p):=by unfold tokS; rw [if_pos h3a,hlp]; simp only; rw [hM,if_pos ⟨hfar,hn3⟩]
         rw [if_pos hal,this]; rfl
        have e9:((at_:Int) - (p:Int)).toNat=at_ - p:=by omega
        have eW:W ++ signB (lenS n).1 ++ bitsN (lenS n).2.1 (lenS n).2.2 ++ bitsM 5 (distS (at_ - p)).1 ++ bitsN (distS (at_ - p)).2.1 (distS (at_ - p)).2.2=W ++ tokB (.cpy n (at_ - p)):=by simp only [tokB,List.append_assoc]
        have hcl:=cpy_le n (at_ - p)
        have hWl:(W ++ signB (lenS n).1 ++ bitsN (lenS n).2.1 (lenS n).2.2).length≤W.length+20:=by
         rw [List.length_append,List.length_append,bitsN_length]
         have:=signB_len (lenS n).1
         have:=lenS_le n
         omega
        have hWd2:=dOk_W (W ++ signB (lenS n).1 ++ bitsN (lenS n).2.1 (lenS n).2.2) (by omega)
        rcases Nat.lt_or_ge n 258 with h58 | h58
        ·have c6:decide ((n:Int)<258)=true:=decide_eq_true (by omega)
         rcases Nat.lt_or_ge (at_+n) b.length with hbl | hbl
         ·have c7:decide ((at_:Int)+(n:Int)<(b.length:Int))=true:=decide_eq_true (by omega)
          have c8:decide (((b.getD (p+n) 0).toNat:Int)=((b.getD (at_+n) 0).toNat:Int))=false:=decide_eq_false (fun h=>hc ⟨h58,hbl,UInt8.toNat_inj.1 (by exact_mod_cast h)⟩)
          simp only [b_dfix_0,t_dfix_0,c6,c7,c8,c9,e6,e7,e9,eW,dlenS,ddistS,dbQ,dW_pack,← List.append_assoc,Int.toNat_natCast,Int.reduceToNat,Bs_len,go_sem,reduceDiv,reduceMod,↓reduceIte,reduceEqDiff,Nat.reduceBEq,reduceSub,Nat.reduceLT,reduceAdd,reduceLeDiff,reduceCtorEq,Int.reduceEq,Int.reduceNe,Int.reduceLT,Int.reduceLE,Int.reduceToNat]
          refine ⟨by (first | omega | (simp only [lenOk,bytesOk,inI,IntKind.bits,List.length_append,Bs_len,List.length_cons,List.length_nil,List.length_map,List.length_take,List.length_drop,List.length_replicate]; omega)),by (first | omega | (simp only [lenOk,bytesOk,inI,IntKind.bits,List.length_append,Bs_len,List.length_cons,List.length_nil,List.length_map,List.length_take,List.length_drop,List.length_replicate]; omega)),⟨by omega,by omega⟩,by (first | omega | (simp only [lenOk,bytesOk,inI,IntKind.bits,List.length_append,Bs_len,List.length_cons,List.length_nil,List.length_map,List.length_take,List.length_drop,List.length_replicate]; omega)),⟨by omega,by omega⟩,⟨hWd,by omega,by omega,by omega⟩,⟨hWd2,by omega,by omega,by omega⟩,dfix_step (at_:=at_) (step:=n) (W:=W ++ tokB (.cpy n (at_ - p))) h3 (by omega) (ent_mp (ints_seen b _) (by rfl) (by rfl)) (fun s' hs' => hR s' ⟨f,at_+n,W ++ tokB (.cpy n (at_ - p))⟩ ⟨by simp only; omega,by simp only; omega,by simp only; rw [← i3,htk,List.flatMap_cons]; simp only [List.append_assoc],by simp only [List.length_append]; omega⟩ (by simp only; omega) hs')⟩
         ·have c7:decide ((at_:Int)+(n:Int)<(b.length:Int))=false:=decide_eq_false (by omega)
          simp only [b_dfix_0,t_dfix_0,c6,c7,c9,e6,e7,e9,eW,dlenS,ddistS,dbQ,dW_pack,← List.append_assoc,Int.toNat_natCast,Int.reduceToNat,Bs_len,go_sem,reduceDiv,reduceMod,↓reduceIte,reduceEqDiff,Nat.reduceBEq,reduceSub,Nat.reduceLT,reduceAdd,reduceLeDiff,reduceCtorEq,Int.reduceEq,Int.reduceNe,Int.reduceLT,Int.reduceLE,Int.reduceToNat]
          refine ⟨by (first | omega | (simp only [lenOk,bytesOk,inI,IntKind.bits,List.length_append,Bs_len,List.length_cons,List.length_nil,List.length_map,List.length_take,List.length_drop,List.length_replicate]; omega)),⟨hWd,by omega,by omega,by omega⟩,⟨hWd2,by omega,by omega,by omega⟩,dfix_step (at_:=at_) (step:=n) (W:=W ++ tokB (.cpy n (at_ - p))) h3 (by omega) (ent_mp (ints_seen b _) (by rfl) (by rfl)) (fun s' hs' => hR s' ⟨f,at_+n,W ++ tokB (.cpy n (at_ - p))⟩ ⟨by simp only; omega,by simp only; omega,by simp only; rw [← i3,htk,List.flatMap_cons]; simp only [List.append_assoc],by simp only [List.length_append]; omega⟩ (by simp only; omega) hs')⟩
        ·have c6:decide ((n:Int)<258)=false:=decide_eq_false (by omega)
         simp only [b_dfix_0,t_dfix_0,c6,c9,e6,e7,e9,eW,dlenS,ddistS,dbQ,dW_pack,← List.append_assoc,Int.toNat_natCast,Int.reduceToNat,Bs_len,go_sem,reduceDiv,reduceMod,↓reduceIte,reduceEqDiff,Nat.reduceBEq,reduceSub,Nat.reduceLT,reduceAdd,reduceLeDiff,reduceCtorEq,Int.reduceEq,Int.reduceNe,Int.reduceLT,Int.reduceLE,Int.reduceToNat]
         refine ⟨⟨hWd,by omega,by omega,by omega⟩,⟨hWd2,by omega,by omega,by omega⟩,dfix_step (at_:=at_) (step:=n) (W:=W ++ tokB (.cpy n (at_ - p))) h3 (by omega) (ent_mp (ints_seen b _) (by rfl) (by rfl)) (fun s' hs' => hR s' ⟨f,at_+n,W ++ tokB (.cpy n (at_ - p))⟩ ⟨by simp only; omega,by simp only; omega,by simp only; rw [← i3,htk,List.flatMap_cons]; simp only [List.append_assoc],by simp only [List.length_append]; omega⟩ (by simp only; omega) hs')⟩
       ·have c9:decide ((3:Int)≤(n:Int))=false:=decide_eq_false (by omega)
        have htk:toksF b (f+1) at_=.lit (b.getD at_ 0) :: toksF b f (at_+1):=by
         show (if at_<b.length then tokS b at_ :: toksF b f (at_+stepT (tokS b at_)) else [])=_
         have:tokS b at_=.lit (b.getD at_ 0):=by unfold tokS; rw [if_pos h3a,hlp]; simp only; rw [hM,if_neg (fun h=>hn3 h.2)]
         rw [if_pos hal,this]; rfl
        rcases Nat.lt_or_ge n 258 with h58 | h58
        ·have c6:decide ((n:Int)<258)=true:=decide_eq_true (by omega)
         rcases Nat.lt_or_ge (at_+n) b.length with hbl | hbl
         ·have c7:decide ((at_:Int)+(n:Int)<(b.length:Int))=true:=decide_eq_true (by omega)
          have c8:decide (((b.getD (p+n) 0).toNat:Int)=((b.getD (at_+n) 0).toNat:Int))=false:=decide_eq_false (fun h=>hc ⟨h58,hbl,UInt8.toNat_inj.1 (by exact_mod_cast h)⟩)
          simp only [b_dfix_0,t_dfix_0,c6,c7,c8,c9,e6,e7,dsignS,dbQ,dW_pack,Int.toNat_natCast,Int.reduceToNat,Bs_len,go_sem,reduceDiv,reduceMod,↓reduceIte,reduceEqDiff,Nat.reduceBEq,reduceSub,Nat.reduceLT,reduceAdd,reduceLeDiff,reduceCtorEq,Int.reduceEq,Int.reduceNe,Int.reduceLT,Int.reduceLE,Int.reduceToNat]
          refine ⟨by (first | omega | (simp only [lenOk,bytesOk,inI,IntKind.bits,List.length_append,Bs_len,List.length_cons,List.length_nil,List.length_map,List.length_take,List.length_drop,List.length_replicate]; omega)),by (first | omega | (simp only [lenOk,bytesOk,inI,IntKind.bits,List.length_append,Bs_len,List.length_cons,List.length_nil,List.length_map,List.length_take,List.length_drop,List.length_replicate]; omega)),⟨by omega,by omega⟩,by (first | omega | (simp only [lenOk,bytesOk,inI,IntKind.bits,List.length_append,Bs_len,List.length_cons,List.length_nil,List.length_map,List.length_take,List.length_drop,List.length_replicate]; omega)),⟨by omega,by omega⟩,⟨by omega,by omega⟩,by (first | omega | (simp only [lenOk,bytesOk,inI,IntKind.bits,List.length_append,Bs_len,List.length_cons,List.length_nil,List.length_map,List.length_take,List.length_drop,List.length_replicate]; omega)),⟨hWd,by omega,by omega,by omega⟩,dfix_step (at_:=at_) (step:=1) (W:=W ++ signB (b.getD at_ 0).toNat) h3 (by omega) (ent_mp (ints_seen b _) (by rfl) (by rfl)) (fun s' hs' => hR s' ⟨f,at_+1,W ++ signB (b.getD at_ 0).toNat⟩ ⟨by simp only; omega,by simp only; omega,by simp only; rw [← i3,htk,List.flatMap_cons]; simp only [List.append_assoc]; rfl,by simp only [List.length_append]; omega⟩ (by simp only; omega) hs')⟩
         ·have c7:decide ((at_:Int)+(n:Int)<(b.length:Int))=false:=decide_eq_false (by omega)
          simp only [b_dfix_0,t_dfix_0,c6,c7,c9,e6,e7,dsignS,dbQ,dW_pack,Int.toNat_natCast,Int.reduceToNat,Bs_len,go_sem,reduceDiv,reduceMod,↓reduceIte,reduceEqDiff,Nat.reduceBEq,reduceSub,Nat.reduceLT,reduceAdd,reduceLeDiff,reduceCtorEq,Int.reduceEq,Int.reduceNe,Int.reduceLT,Int.reduceLE,Int.reduceToNat]
          refine ⟨by (first | omega | (simp only [lenOk,bytesOk,inI,IntKind.bits,List.length_append,Bs_len,List.length_cons,List.length_nil,List.length_map,List.length_take,List.length_drop,List.length_replicate]; omega)),⟨by omega,by omega⟩,by (first | omega | (simp only [lenOk,bytesOk,inI,IntKind.bits,List.length_append,Bs_len,List.length_cons,List.length_nil,List.length_map,List.length_take,List.length_drop,List.length_replicate]; omega)),⟨hWd,by omega,by omega,by omega⟩,dfix_step (at_:=at_) (step:=1) (W:=W ++ signB (b.getD at_ 0).toNat) h3 (by omega) (ent_mp (ints_seen b _) (by rfl) (by rfl)) (fun s' hs' => hR s' ⟨f,at_+1,W ++ signB (b.getD at_ 0).toNat⟩ ⟨by simp only; omega,by simp only; omega,by simp only; rw [← i3,htk,List.flatMap_cons]; simp only [List.append_assoc]; rfl,by simp only [List.length_append]; omega⟩ (by simp only; omega) hs')⟩
        ·have c6:decide ((n:Int)<258)=false:=decide_eq_false (by omega)
         simp only [b_dfix_0,t_dfix_0,c6,c9,e6,e7,dsignS,dbQ,dW_pack,Int.toNat_natCast,Int.reduceToNat,Bs_len,go_sem,reduceDiv,reduceMod,↓reduceIte,reduceEqDiff,Nat.reduceBEq,reduceSub,Nat.reduceLT,reduceAdd,reduceLeDiff,reduceCtorEq,Int.reduceEq,Int.reduceNe,Int.reduceLT,Int.reduceLE,Int.reduceToNat]
         refine ⟨⟨by omega,by omega⟩,by (first | omega | (simp only [lenOk,bytesOk,inI,IntKind.bits,List.length_append,Bs_len,List.length_cons,List.length_nil,List.length_map,List.length_take,List.length_drop,List.length_replicate]; omega)),⟨hWd,by omega,by omega,by omega⟩,dfix_step (at_:=at_) (step:=1) (W:=W ++ signB (b.getD at_ 0).toNat) h3 (by omega) (ent_mp (ints_seen b _) (by rfl) (by rfl)) (fun s' hs' => hR s' ⟨f,at_+1,W ++ signB (b.getD at_ 0).toNat⟩ ⟨by simp only; omega,by simp only; omega,by simp only; rw [← i3,htk,List.flatMap_cons]; simp only [List.append_assoc]; rfl,by simp only [List.length_append]; omega⟩ (by simp only; omega) hs')⟩
     ·have c5:decide ((at_:Int) - (p:Int)≤32768)=false:=decide_eq_false (by omega)
      simp only [b_dfix_2,c1,c2,c5,hkk,hdl,hk3,hgm,unB_Bs,unV_U,Option.map_some,Int.toNat_natCast,Int.reduceToNat,Bs_len,go_sem,reduceDiv,reduceMod,↓reduceIte,reduceEqDiff,Nat.reduceBEq,reduceSub,Nat.reduceLT,reduceAdd,reduceLeDiff,reduceCtorEq,Int.reduceEq,Int.reduceNe,Int.reduceLT,Int.reduceLE,Int.reduceToNat]
      refine ⟨by (first | omega | (simp only [lenOk,bytesOk,inI,IntKind.bits,List.length_append,Bs_len,List.length_cons,List.length_nil,List.length_map,List.length_take,List.length_drop,List.length_replicate]; omega)),by omega,by omega,by (first | omega | (simp only [lenOk,bytesOk,inI,IntKind.bits,List.length_append,Bs_len,List.length_cons,List.length_nil,List.length_map,List.length_take,List.length_drop,List.length_replicate]; omega)),?_⟩
      have hu:=(b.getD at_ 0).toNat_lt
      obtain ⟨f,rfl⟩:∃ g,f=g+1:=⟨f - 1,by omega⟩
      have hsl:=signB_len (b.getD at_ 0).toNat
      have htk:toksF b (f+1) at_=.lit (b.getD at_ 0) :: toksF b f (at_+1):=by
       show (if at_<b.length then tokS b at_ :: toksF b f (at_+stepT (tokS b at_)) else [])=_
       have:tokS b at_=.lit (b.getD at_ 0):=by unfold tokS; rw [if_pos h3a,hlp]; simp only; rw [if_neg (fun h=>hfar h.1)]
       rw [if_pos hal,this]; rfl
      simp only [t_dfix_0,dsignS,dbQ,dW_pack,Int.toNat_natCast,Int.reduceToNat,Bs_len,go_sem,reduceDiv,reduceMod,↓reduceIte,reduceEqDiff,Nat.reduceBEq,reduceSub,Nat.reduceLT,reduceAdd,reduceLeDiff,reduceCtorEq,Int.reduceEq,Int.reduceNe,Int.reduceLT,Int.reduceLE,Int.reduceToNat]
      refine ⟨⟨by omega,by omega⟩,by (first | omega | (simp only [lenOk,bytesOk,inI,IntKind.bits,List.length_append,Bs_len,List.length_cons,List.length_nil,List.length_map,List.length_take,List.length_drop,List.length_replicate]; omega)),⟨hWd,by omega,by omega,by omega⟩,dfix_step (at_:=at_) (step:=1) (W:=W ++ signB (b.getD at_ 0).toNat) h3 (by omega) (ent_mp (ints_seen b _) (by rfl) (by rfl)) (fun s' hs' => hR s' ⟨f,at_+1,W ++ signB (b.getD at_ 0).toNat⟩ ⟨by simp only; omega,by simp only; omega,by simp only; rw [← i3,htk,List.flatMap_cons]; simp only [List.append_assoc]; rfl,by simp only [List.length_append]; omega⟩ (by simp only; omega) hs')⟩
   ·have c2:decide ((at_:Int)+3≤(b.length:Int))=false:=decide_eq_false (by omega)
    simp only [b_dfix_2,c1,c2,unB_Bs,unV_U,Int.toNat_natCast,Int.reduceToNat,Bs_len,go_sem,reduceDiv,reduceMod,↓reduceIte,reduceEqDiff,Nat.reduceBEq,reduceSub,Nat.reduceLT,reduceAdd,reduceLeDiff,reduceCtorEq,Int.reduceEq,Int.reduceNe,Int.reduceLT,Int.reduceLE,Int.reduceToNat]
    refine ⟨by (first | omega | (simp only [lenOk,bytesOk,inI,IntKind.bits,List.length_append,Bs_len,List.length_cons,List.length_nil,List.length_map,List.length_take,List.length_drop,List.length_replicate]; omega)),?_⟩
    have hu:=(b.getD at_ 0).toNat_lt
    obtain ⟨f,rfl⟩:∃ g,f=g+1:=⟨f - 1,by omega⟩
    have hsl:=signB_len (b.getD at_ 0).toNat
    have htk:toksF b (f+1) at_=.lit (b.getD at_ 0) :: toksF b f (at_+1):=by
     show (if at_<b.length then tokS b at_ :: toksF b f (at_+stepT (tokS b at_)) else [])=_
     have:tokS b at_=.lit (b.getD at_ 0):=by unfold tokS; rw [if_neg h3a]
     rw [if_pos hal,this]; rfl
    simp only [t_dfix_0,dsignS,dbQ,dW_pack,Int.toNat_natCast,Int.reduceToNat,Bs_len,go_sem,reduceDiv,reduceMod,↓reduceIte,reduceEqDiff,Nat.reduceBEq,reduceSub,Nat.reduceLT,reduceAdd,reduceLeDiff,reduceCtorEq,Int.reduceEq,Int.reduceNe,Int.reduceLT,Int.reduceLE,Int.reduceToNat]
    refine ⟨⟨by omega,by omega⟩,by (first | omega | (simp only [lenOk,bytesOk,inI,IntKind.bits,List.length_append,Bs_len,List.length_cons,List.length_nil,List.length_map,List.length_take,List.length_drop,List.length_replicate]; omega)),⟨hWd,by omega,by omega,by omega⟩,dfix_step (at_:=at_) (step:=1) (W:=W ++ signB (b.getD at_ 0).toNat) h3 (by omega) (ent_mp (ints_seen b _) (by rfl) (by rfl)) (fun s' hs' => hR s' ⟨f,at_+1,W ++ signB (b.getD at_ 0).toNat⟩ ⟨by simp only; omega,by simp only; omega,by simp only; rw [← i3,htk,List.flatMap_cons]; simp only [List.append_assoc]; rfl,by simp only [List.length_append]; omega⟩ (by simp only; omega) hs')⟩
  ·have c1:decide ((at_:Int)<(b.length:Int))=false:=decide_eq_false (by omega)
   obtain rfl:at_=b.length:=by omega
   have ht:toksF b f b.length=[]:=by
    cases f with
    | zero=>rfl
    | succ f=>unfold toksF; rw [if_neg (by omega)]
   rw [ht,List.flatMap_nil,List.nil_append] at i3
   simp only [b_dfix_2,t_dfix_1,r_dfix,c1,Bs_len,dsignS,dbQ,dW_pack,i3,Int.reduceToNat,go_sem,reduceDiv,reduceMod,↓reduceIte,reduceEqDiff,Nat.reduceBEq,reduceSub,Nat.reduceLT,reduceAdd,reduceLeDiff,reduceCtorEq,Int.reduceEq,Int.reduceNe,Int.reduceLT,Int.reduceLE,Int.reduceToNat]
   exact ⟨hWd,by omega⟩
 ·cases hs
def dfixS:Spec:=fun xs hp=>match xs,hp with
 | [.sl k ps],[]=>some ⟨.sl 1 (Bs (dflF (unB ps))),[],byOk k ps⟩
 | _,_=>none
theorem dfix_ok:FnOk Tryd.prog 55 dfixS:=dfix0_ok.freezeD fun xs hp r' hs hp' => by
 unfold dfixS at hs
 split at hs
 ·rename_i k ps
  injection hs with hs; subst hs
  refine ⟨rfl,⟨.own 0 (verW (dfixW (unB ps))),[.row 5 1 (verW (dfixW (unB ps))) (Bs (packW (dfixW (unB ps))))],byOk k ps⟩,rfl,hp',rfl,?_,rfl,rfl⟩
  simp [fzV,fzD]
  rfl
 ·cases hs
def dstorS:Spec:=fun xs hp=>match xs,hp with
 | [.sl k ps],[]=>some ⟨.sl 1 (Bs (storW (unB ps))),[],byOk k ps⟩
 | _,_=>none
theorem dstor_ok:FnOk Tryd.prog 56 dstorS:=dstor0_ok.freezeD fun xs hp r' hs hp' => by
 unfold dstorS at hs
 split at hs
 ·rename_i k ps
  injection hs with hs; subst hs
  refine ⟨rfl,⟨.own 0 (storV ((unB ps).length+1) (unB ps)),[.row 5 1 (storV ((unB ps).length+1) (unB ps)) (Bs (storW (unB ps)))],byOk k ps⟩,rfl,hp',rfl,?_,rfl,rfl⟩
  simp [fzV,fzD]
 ·cases hs
def drawS:Spec:=fun xs hp=>match xs,hp with
 | [.sl k ps],[]=>some ⟨.sl 1 (Bs (dflL (unB ps))),[],byOk k ps⟩
 | _,_=>none
theorem draw_ok:FnOk Tryd.prog 33 drawS:=by
 refine fn_slim2 Tryd.func33 s_draw (Φ:=phiL [(55,[],dfixS),(56,[],dstorS)]) (phi_cons dfix_ok (by kernel_rfl) (phi_cons dstor_ok (by kernel_rfl) phi_nil)) ?_
 intro xs hp r hs hp'
 unfold drawS at hs
 split at hs
 ·rename_i k ps
  injection hs with hs; subst hs
  have hP:byOk k ps:=hp'
  refine ⟨len_le (by kernel_rfl),?_⟩
  by_cases hl:(dflF (unB ps)).length≤(storW (unB ps)).length
  ·have c1:decide (((dflF (unB ps)).length:Int)≤((storW (unB ps)).length:Int))=true:=decide_eq_true (by omega)
   have e:dflL (unB ps)=dflF (unB ps):=if_pos hl
   rw [e]
   simp only [c_draw,r_draw,dfixS,dstorS,c1,Bs_len,go_sem,reduceDiv,reduceMod,↓reduceIte,reduceEqDiff,Nat.reduceBEq,reduceSub,Nat.reduceLT,reduceAdd,reduceLeDiff,reduceCtorEq,Int.reduceEq,Int.reduceNe,Int.reduceLT,Int.reduceLE,Int.reduceToNat]
   exact hP
  ·have c1:decide (((dflF (unB ps)).length:Int)≤((storW (unB ps)).length:Int))=false:=decide_eq_false (by omega)
   have e:dflL (unB ps)=storW (unB ps):=if_neg hl
   rw [e]
   simp only [c_draw,r_draw,dfixS,dstorS,c1,Bs_len,go_sem,reduceDiv,reduceMod,↓reduceIte,reduceEqDiff,Nat.reduceBEq,reduceSub,Nat.reduceLT,reduceAdd,reduceLeDiff,reduceCtorEq,Int.reduceEq,Int.reduceNe,Int.reduceLT,Int.reduceLE,Int.reduceToNat]
   exact hP
 ·cases hs
theorem dflL_len (b:List UInt8):(dflL b).length≤6 * b.length+5:=by
 have h:(storW b).length≤6 * b.length+5:=by
  have:=storB_le (b.length+1) b
  unfold storW; omega
 unfold dflL
 split <;> omega
def zwrapS:Spec:=fun xs hp=>match xs,hp with
 | [.sl k ps],[]=>some ⟨.own 0 2,[.row 5 1 2 (Bs (zwrap (unB ps)))],byOk k ps⟩
 | _,_=>none
set_option maxRecDepth 8000 in
theorem zwrap_ok:FnOk Tryd.prog 15 zwrapS:=by
 refine fn_slim2 Tryd.func15 s_zwrap (Φ:=phiL [(32,[],adlerS),(31,[],zfourS),(33,[],drawS)]) (phi_cons adler_ok (by kernel_rfl) (phi_cons zfour_ok (by kernel_rfl) (phi_cons draw_ok (by kernel_rfl) phi_nil))) ?_
 intro xs hp r hs hp'
 unfold zwrapS at hs
 split at hs
 ·rename_i k ps
  injection hs with hs; subst hs
  obtain ⟨h1,h2,h3⟩:=hp'
  generalize unB ps=b at *
  subst h1 h2
  refine ⟨len_le (by kernel_rfl),?_⟩
  simp only [c_zwrap,r_zwrap,adlerS,zfourS,drawS,unB_Bs,Int.toNat_natCast,Bs_len,go_sem,reduceDiv,reduceMod,↓reduceIte,reduceEqDiff,Nat.reduceBEq,reduceSub,Nat.reduceLT,reduceAdd,reduceLeDiff,reduceCtorEq,Int.reduceEq,Int.reduceNe,Int.reduceLT,Int.reduceLE,Int.reduceToNat]
  have hl:=dflL_len b
  have ha:=adlN_lt b
  have e:zwrap b=120 :: 156 :: (dflL b ++ tail4 (adlN b)):=by unfold zwrap; simp [List.append_assoc]
  have e2:AV.int IntKind.u8 120 :: AV.int IntKind.u8 156 :: (Bs (dflL b) ++ Bs (tail4 (adlN b)))=Bs (zwrap b):=by rw [e,← Bs_append]; rfl
  rw [e2]
  have h4:(tail4 (adlN b)).length=4:=rfl
  simp only [List.length_append,Bs_length,h4]
  refine ⟨⟨.inl trivial,by omega⟩,⟨by omega,by omega⟩,trivial,⟨(unB_Bs b).symm ▸ rfl,rfl,by rw [unB_Bs]; omega⟩,⟨by simp only [lenOk]; omega,by simp only [bytesOk]; omega⟩,⟨by simp only [lenOk]; omega,by simp only [bytesOk]; omega⟩,trivial⟩
 ·cases hs
open Go.Shelf
end Go.Proofs.YtakolikdebfkeaaDoor

namespace Go.Proofs.YtakolikdebfkeaaDoor
open Go.RowKit
theorem blob_U (l:List UInt8) (w:World) (S:Nat→Prop) (ρ:Rho):Vl w S ρ (.blob (l.map U)) (.agg (l.map U).toArray) :=
 Vl.blob' _ fun u hu=>by obtain ⟨x,_,rfl⟩:=List.mem_map.1 hu; rfl
def unSl:AV→List UInt8
 | .sl _ bs=>unB bs
 | _=>[]
def slB (l:List UInt8):AV:=.sl 1 (Bs l)
theorem css_recs {w:World} {S:Nat→Prop}:∀ (parts:List (List UInt8)) (us:List Value),Css w S rho0 (prs 1 (parts.map slB)) us→∃ xs:List BRec,xs.map (·.b)=parts∧us=xs.map BRec.cell∧∀ x∈xs,Rd w x.A x.b:=by
 intro parts
 induction parts with
 | nil=>intro us h; exact ⟨[],rfl,h,fun x hx=>by simp at hx⟩
 | cons l parts ih =>
  intro us h
  obtain ⟨u1,u2,rfl,h1,h2,h3⟩:=h
  obtain ⟨xs,x1,x2,x3⟩:=ih u2 h3
  obtain ⟨v,rfl⟩:∃ v,u1=[v]:=by
   match u1,h1 with
   | [v],_=>exact ⟨v,rfl⟩
  obtain ⟨A,n,c,us',rfl,hM⟩:=Mem.of_sl h2
  obtain ⟨r1,r2⟩:=hM.rd
  subst r2
  exact ⟨⟨A,c,l⟩ :: xs,by simp [x1],by simp [x2,BRec.cell],fun x hx=>by
   rcases List.mem_cons.1 hx with rfl | hx
   ·exact r1
   ·exact x3 x hx⟩
def sumS:Spec:=fun xs hp=>match xs,hp with
 | [.sl 1 ps],[]=>some ⟨.blob ((sha (ps.map unSl).flatten).map U),[],ps=(ps.map unSl).map slB∧ps.length≤1099511627776∧(ps.map unSl).flatten.length≤1099511627776⟩
 | _,_=>none
theorem sum_ok:FnOk Tryd.prog 45 sumS:=by
 refine fnok_of_calls fun xs0 hp r hs hp' => ?_
 unfold sumS at hs
 split at hs
 ·rename_i ps
  injection hs with hs; subst hs
  obtain ⟨p1,p2,p3⟩:=hp'
  refine ⟨rfl,rfl,fun w S ρ args hS ha=>?_⟩
  obtain ⟨v,vs,rfl,hv,hr⟩:=ha.get _ _ rfl
  obtain rfl:=hr.none
  generalize ps.map unSl=parts at *
  subst p1
  have hlen:parts.length≤1099511627776:=by simpa using p2
  obtain ⟨A,n,c,us,rfl,hM⟩:=Mem.of_sl hv.sl
  obtain ⟨xs,x1,x2,x3⟩:=css_recs parts us hM.css
  have hxl:xs.length=parts.length:=by rw [← x1,List.length_map]
  have hfl:flatR xs=parts.flatten:=by unfold flatR; rw [x1]
  have hrd:RdS w A xs:=by
   refine ⟨fun h0=>?_,x3⟩
   obtain ⟨b,o,e,hc⟩:=hM.cell (by rw [x2]; simpa using h0)
   refine ⟨b,o,e,fun j u hj=>?_⟩
   rw [← x2] at hj
   rw [hc j (List.getElem?_eq_some_iff.1 hj).1,hj]
  have hn:=hM.len
  rw [List.length_map] at hn
  refine (shaSum A n c xs w (by rw [hn,hxl]) hrd (by omega) (by rw [hfl]; exact p3)).mono ?_
  rintro e w' ⟨rfl,hb⟩
  exact ⟨_,rfl,hb,fun w' S ρ=>by rw [hfl]; exact blob_U _ _ _ _⟩
 ·cases hs
noncomputable def sealF {α β:Type} (f:α→β):α→β:=Classical.choose (⟨f,fun _=>rfl⟩:∃ g:α→β,∀ a,g a=f a)
theorem sealF_eq {α β:Type} (f:α→β) (a:α):sealF f a=f a:=Classical.choose_spec (⟨f,fun _=>rfl⟩:∃ g:α→β,∀ a,g a=f a) a
theorem wrap8n {n:Nat} (h:n<256):IntKind.u8.wrap (n:Int)=(n:Int):=by rw [IntKind.wrap_u8']; omega
end Go.Proofs.YtakolikdebfkeaaDoor
