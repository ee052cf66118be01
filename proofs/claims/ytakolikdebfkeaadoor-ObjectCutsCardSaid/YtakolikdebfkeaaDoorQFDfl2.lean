import Derived.Test.YtakolikdebfkeaaDoorQZlCode
import Derived.Test.YtakolikdebfkeaaDoorQInfCode
import Derived.Test.YtakolikdebfkeaaDoorQAM9
import Derived.Test.YtakolikdebfkeaaDoorQInfLaw7
import Derived.Test.YtakolikdebfkeaaDoorQAMS
open Nat (reduceDiv reduceMod reduceSub reduceAdd reduceLeDiff reduceEqDiff)
set_option linter.all false
namespace Go.Proofs.YtakolikdebfkeaaDoor
open Go.RowKit
def dW (n:Int) (ys:List AV):List Bool:=(bitsOf (unB ys)).take n.toNat
theorem dW_pack (W:List Bool):dW (W.length:Int) (Bs (packW W))=W:=by
 obtain ⟨z,h,_⟩:=packW_bits W
 unfold dW
 rw [unB_Bs,h,Int.toNat_natCast,List.take_left']
 rfl
def verW (W:List Bool):Nat:=(packW W).length
def dOk (v rv:Nat) (n:Int) (ys:List AV):Prop:=ys=Bs (packW (dW n ys))∧n=((dW n ys).length:Int)∧v=rv∧rv=verW (dW n ys)∧n≤10000000000
def dbQ (t:TypeId) (W' : List Bool):List AObj:=[.cells t [(1,.own 1 (verW W')),(1,.int .i64 (W'.length:Int))],.row 5 1 (verW W') (Bs (packW W'))]
theorem or8:∀ e:Nat,e<8→∀ a:Nat,a<128→∀ b:Nat,b<2→a<2 ^ e→bits BinOp.or IntKind.u8 (a:Int) (IntKind.u8.wrap ((b:Int) * 2 ^ e))=((a+b * 2 ^ e:Nat):Int):=by decide +kernel
theorem Bs_setN (P:List UInt8) (i m:Nat) (h:m<256):(Bs P).set i (AV.int .u8 (m:Int))=Bs (P.set i (UInt8.ofNat m)):=by
 rw [B_nat m h]
 exact Bs_set
def dputS:Spec:=fun xs hp=>match xs,hp with
 | [.ref 0 0 0,.int .i64 x],[.cells t [(1,.own 1 v),(1,.int .i64 n)],.row 5 1 rv ys]=>some ⟨.tup [],dbQ t (dW n ys ++ [decide (x=1)]),dOk v rv n ys∧(x=0∨x=1)⟩
 | _,_=>none
set_option maxRecDepth 8000 in
theorem dput_ok:FnOk Tryd.prog 110 dputS:=by
 refine fn_slim2 Tryd.func110 s_dput (Φ:=phiL []) phi_nil ?_
 intro xs hp r hs hp'
 unfold dputS at hs
 split at hs
 ·rename_i x t v n rv ys
  injection hs with hs; subst hs
  obtain ⟨⟨h1,h2,rfl,h3,h4⟩,hx⟩:=hp'
  generalize dW n ys=W at *
  subst h1 h2 h3
  obtain ⟨b,rfl⟩:∃ b:Bool,x=(b.toNat:Int):=by
   rcases hx with rfl | rfl
   ·exact ⟨false,rfl⟩
   ·exact ⟨true,rfl⟩
  have hb:decide (((b.toNat:Nat):Int)=1)=b:=by cases b <;> rfl
  rw [hb]
  obtain ⟨p1,p2,p3⟩:=put_next W b
  have e1:(W.length:Int).tmod 8=((W.length % 8:Nat):Int):=by rw [Int.tmod_eq_emod_of_nonneg (by omega)]; omega
  have e2:(W.length:Int).tdiv 8=((W.length / 8:Nat):Int):=by rw [Int.tdiv_eq_ediv_of_nonneg (by omega)]; omega
  refine ⟨len_le (by kernel_rfl),?_⟩
  have hb2:b.toNat<2:=Bool.toNat_lt b
  have h27:(2:Nat) ^ (W.length % 8)≤2 ^ 7:=Nat.pow_le_pow_right (by omega) (by omega)
  have hbm:b.toNat * 2 ^ (W.length % 8)≤2 ^ (W.length % 8):=by
   have:=Nat.mul_le_mul_right (2 ^ (W.length % 8)) (show b.toNat≤1 by omega)
   omega
  have hor:=or8 (W.length % 8) (by omega) ((roomW W).getD (W.length / 8) 0).toNat (by omega) b.toNat hb2 p2
  have hset:=Bs_setN (roomW W) (W.length / 8) (((roomW W).getD (W.length / 8) 0).toNat+b.toNat * 2 ^ (W.length % 8)) (by omega)
  rw [← p3] at hset
  have hv:verW (W ++ [b])=(roomW W).length:=by unfold verW; rw [p3,List.length_set]
  have hl1:(((W ++ [b]).length:Nat):Int)=(W.length:Int)+1:=by rw [List.length_append]; rfl
  have hin:inI (((b.toNat:Nat):Int) * 2 ^ (W.length % 8)):=by
   have:((b.toNat:Nat):Int) * 2 ^ (W.length % 8)=((b.toNat * 2 ^ (W.length % 8):Nat):Int):=by push_cast; rfl
   rw [this]
   generalize b.toNat * 2 ^ (W.length % 8)=z at *
   generalize 2 ^ (W.length % 8)=z2 at *
   (first | omega | (simp only [lenOk,bytesOk,inI,IntKind.bits,List.length_append,Bs_len,List.length_cons,List.length_nil,List.length_map,List.length_take,List.length_drop,List.length_replicate]; omega))
  have hpl:=packW_len W
  clear hbm h27
  by_cases h0:W.length % 8=0
  ·have c1:decide (((W.length % 8:Nat):Int)=0)=true:=decide_eq_true (by omega)
   have hrm:roomW W=packW W ++ [0]:=if_pos h0
   have hz:Bs (packW W) ++ [AV.int IntKind.u8 0]=Bs (roomW W):=by rw [hrm,Bs_append]; rfl
   have hrl:(roomW W).length=verW W+1:=by rw [hrm,List.length_append]; rfl
   simp only [c_dput,r_dput,e1,e2,c1,dbQ,hz,hor,hset,hv,hl1,hrl,Bs_len,Int.toNat_natCast,go_sem,reduceDiv,reduceMod,↓reduceIte,reduceEqDiff,Nat.reduceBEq,reduceSub,Nat.reduceLT,reduceAdd,reduceLeDiff,reduceCtorEq,Int.reduceEq,Int.reduceNe,Int.reduceLT,Int.reduceLE,Int.reduceToNat]
   have hvw:verW W=(W.length+7) / 8:=hpl
   exact ⟨⟨by simp only [lenOk]; omega,by simp only [bytesOk]; omega⟩,by (first | omega | (simp only [lenOk,bytesOk,inI,IntKind.bits,List.length_append,Bs_len,List.length_cons,List.length_nil,List.length_map,List.length_take,List.length_drop,List.length_replicate]; omega)),by omega,by omega,⟨by omega,hin⟩,by omega,by omega,by (first | omega | (simp only [lenOk,bytesOk,inI,IntKind.bits,List.length_append,Bs_len,List.length_cons,List.length_nil,List.length_map,List.length_take,List.length_drop,List.length_replicate]; omega))⟩
  ·have c1:decide (((W.length % 8:Nat):Int)=0)=false:=decide_eq_false (by omega)
   have hrm:roomW W=packW W:=if_neg h0
   have hrl:(roomW W).length=verW W:=by rw [hrm]; rfl
   rw [hrm] at hor hset
   simp only [c_dput,r_dput,e1,e2,c1,dbQ,hor,hset,hv,hl1,hrl,Bs_len,Int.toNat_natCast,go_sem,reduceDiv,reduceMod,↓reduceIte,reduceEqDiff,Nat.reduceBEq,reduceSub,Nat.reduceLT,reduceAdd,reduceLeDiff,reduceCtorEq,Int.reduceEq,Int.reduceNe,Int.reduceLT,Int.reduceLE,Int.reduceToNat]
   exact ⟨by (first | omega | (simp only [lenOk,bytesOk,inI,IntKind.bits,List.length_append,Bs_len,List.length_cons,List.length_nil,List.length_map,List.length_take,List.length_drop,List.length_replicate]; omega)),by omega,by omega,⟨by omega,hin⟩,by omega,by omega,by (first | omega | (simp only [lenOk,bytesOk,inI,IntKind.bits,List.length_append,Bs_len,List.length_cons,List.length_nil,List.length_map,List.length_take,List.length_drop,List.length_replicate]; omega))⟩
 ·cases hs
theorem and1G (k:Nat) (h:k<9223372036854775808):bits BinOp.and IntKind.i64 (k:Int) 1=((k % 2:Nat):Int):=by
 have:=i64_and k 1 h (by omega)
 rw [Nat.and_one_is_mod] at this
 exact this
theorem bit_dec (k i:Nat):decide (((k / 2 ^ i % 2:Nat):Int)=1)=k.testBit i:=by
 rw [Nat.testBit_eq_decide_div_mod_eq]
 by_cases h:k / 2 ^ i % 2=1
 ·rw [h]; rfl
 ·rw [decide_eq_false h]; exact decide_eq_false (by omega)
theorem shr_nat (k i:Nat):((k:Nat):Int) / 2 ^ i=((k / 2 ^ i:Nat):Int):=by rw [Int.natCast_ediv,Int.natCast_pow]; rfl
theorem bitsN_zero (v:Nat):bitsN 0 v=[]:=by simp [bitsN]
theorem bitsN_succ (n v:Nat):bitsN (n+1) v=bitsN n v ++ [v.testBit n]:=by
 unfold bitsN
 rw [List.range_succ,List.map_append]; rfl
def dnumS:Spec:=fun xs hp=>match xs,hp with
 | [.ref 0 0 0,.int .i64 k,.int .i64 m],[.cells t [(1,.own 1 v),(1,.int .i64 n)],.row 5 1 rv ys]=>some ⟨.tup [],dbQ t (dW n ys ++ bitsN m.toNat k.toNat),dOk v rv n ys∧n≤9000000000∧0≤k∧k<4294967296∧0≤m∧m≤40⟩
 | _,_=>none
theorem dOk_W (W:List Bool) (h:W.length≤10000000000):dOk (verW W) (verW W) (W.length:Int) (Bs (packW W)):=⟨by rw [dW_pack],by rw [dW_pack],rfl,by rw [dW_pack],by omega⟩
set_option maxRecDepth 8000 in
theorem dnum_ok:FnOk Tryd.prog 84 dnumS:=by
 refine fn_slim2 Tryd.func84 s_dnum (Φ:=phiL [(110,[],dputS)]) (phi_cons dput_ok (by kernel_rfl) phi_nil) ?_
 intro xs hp r hs hp'
 unfold dnumS at hs
 split at hs
 ·rename_i k m t v n rv ys
  injection hs with hs; subst hs
  obtain ⟨⟨h1,h2,rfl,h3,h4⟩,h5,h6,h7,h8,h9⟩:=hp'
  generalize dW n ys=W at *
  subst h1 h2 h3
  obtain ⟨k,rfl⟩:∃ p:Nat,k=p:=⟨k.toNat,by omega⟩
  obtain ⟨m,rfl⟩:∃ p:Nat,m=p:=⟨m.toNat,by omega⟩
  simp only [Int.toNat_natCast]
  refine ⟨len_le (by kernel_rfl),?_⟩
  simp only [c_dnum,dbQ,go_sem,reduceDiv,reduceMod,↓reduceIte,reduceEqDiff,Nat.reduceBEq,reduceSub,Nat.reduceLT,reduceAdd,reduceLeDiff,reduceCtorEq,Int.reduceEq,Int.reduceNe,Int.reduceLT,Int.reduceLE,Int.reduceToNat]
  refine loop2P [] [0,1,7,8] [0,1] (fun i:Nat=>⟨[(0,.ref 0 0 0),(1,.int .i64 (k:Int)),(7,.int .i64 (m:Int)),(8,.int .i64 (i:Int))],[.cells t [(1,.own 1 (verW (W ++ bitsN i k))),(1,.int .i64 ((W ++ bitsN i k).length:Int))],.row 5 1 (verW (W ++ bitsN i k)) (Bs (packW (W ++ bitsN i k)))]⟩)
   (fun i=>i≤m) (fun i=>m - i) 0 (by simp only [bitsN_zero,List.append_nil,Int.cast_ofNat_Int,go_sem,reduceDiv,reduceMod,↓reduceIte,reduceEqDiff,Nat.reduceBEq,reduceSub,Nat.reduceLT,reduceAdd,reduceLeDiff,reduceCtorEq,Int.reduceEq,Int.reduceNe,Int.reduceLT,Int.reduceLE,Int.reduceToNat]) (Nat.zero_le _) ⟨rfl,by rfl⟩ (fun i hi R hR=>?_)
  have hil:(W ++ bitsN i k).length=W.length+i:=by rw [List.length_append,bitsN_length]
  by_cases him:i<m
  ·have c1:decide ((i:Int)<(m:Int))=true:=decide_eq_true (by omega)
   have e1:=shr_nat k i
   have hk:k / 2 ^ i<9223372036854775808:=Nat.lt_of_le_of_lt (Nat.div_le_self _ _) (by omega)
   have e2:=and1G (k / 2 ^ i) hk
   have hbd:=bit_dec k i
   have hsn:=bitsN_succ i k
   simp only [b_dnum_0,c1,e1,e2,dputS,dbQ,dW_pack,hbd,go_sem,reduceDiv,reduceMod,↓reduceIte,reduceEqDiff,Nat.reduceBEq,reduceSub,Nat.reduceLT,reduceAdd,reduceLeDiff,reduceCtorEq,Int.reduceEq,Int.reduceNe,Int.reduceLT,Int.reduceLE,Int.reduceToNat]
   refine ⟨by omega,⟨dOk_W _ (by omega),by omega⟩,by (first | omega | (simp only [lenOk,bytesOk,inI,IntKind.bits,List.length_append,Bs_len,List.length_cons,List.length_nil,List.length_map,List.length_take,List.length_drop,List.length_replicate]; omega)),hR _ (i+1) (by omega) (by omega) ?_⟩
   rw [hsn,← List.append_assoc]
   rfl
  ·have c1:decide ((i:Int)<(m:Int))=false:=decide_eq_false (by omega)
   obtain rfl:i=m:=by omega
   simp only [b_dnum_0,r_dnum,c1,go_sem,reduceDiv,reduceMod,↓reduceIte,reduceEqDiff,Nat.reduceBEq,reduceSub,Nat.reduceLT,reduceAdd,reduceLeDiff,reduceCtorEq,Int.reduceEq,Int.reduceNe,Int.reduceLT,Int.reduceLE,Int.reduceToNat]
 ·cases hs
theorem bitsM_take (m k i:Nat) (h:i<m):(bitsM m k).take (i+1)=(bitsM m k).take i ++ [(k / 2 ^ (m - 1 - i)).testBit 0]:=by
 rw [List.take_add_one,bitsM_get h]; rfl
theorem bit_dec0 (q:Nat):decide (((q % 2:Nat):Int)=1)=q.testBit 0:=by
 have:=bit_dec q 0
 rw [Nat.pow_zero,Nat.div_one] at this; exact this
def dcodeS:Spec:=fun xs hp=>match xs,hp with
 | [.ref 0 0 0,.int .i64 k,.int .i64 m],[.cells t [(1,.own 1 v),(1,.int .i64 n)],.row 5 1 rv ys]=>some ⟨.tup [],dbQ t (dW n ys ++ bitsM m.toNat k.toNat),dOk v rv n ys∧n≤9000000000∧0≤k∧k<4294967296∧0≤m∧m≤40⟩
 | _,_=>none
set_option maxRecDepth 8000 in
theorem dcode_ok:FnOk Tryd.prog 111 dcodeS:=by
 refine fn_slim2 Tryd.func111 s_dcode (Φ:=phiL [(110,[],dputS)]) (phi_cons dput_ok (by kernel_rfl) phi_nil) ?_
 intro xs hp r hs hp'
 unfold dcodeS at hs
 split at hs
 ·rename_i k m t v n rv ys
  injection hs with hs; subst hs
  obtain ⟨⟨h1,h2,rfl,h3,h4⟩,h5,h6,h7,h8,h9⟩:=hp'
  generalize dW n ys=W at *
  subst h1 h2 h3
  obtain ⟨k,rfl⟩:∃ p:Nat,k=p:=⟨k.toNat,by omega⟩
  obtain ⟨m,rfl⟩:∃ p:Nat,m=p:=⟨m.toNat,by omega⟩
  simp only [Int.toNat_natCast]
  refine ⟨len_le (by kernel_rfl),?_⟩
  simp only [c_dcode,dbQ,go_sem,reduceDiv,reduceMod,↓reduceIte,reduceEqDiff,Nat.reduceBEq,reduceSub,Nat.reduceLT,reduceAdd,reduceLeDiff,reduceCtorEq,Int.reduceEq,Int.reduceNe,Int.reduceLT,Int.reduceLE,Int.reduceToNat]
  refine ⟨by (first | omega | (simp only [lenOk,bytesOk,inI,IntKind.bits,List.length_append,Bs_len,List.length_cons,List.length_nil,List.length_map,List.length_take,List.length_drop,List.length_replicate]; omega)),?_⟩
  refine loop2P [] [0,1,6] [0,1] (fun i:Nat=>⟨[(0,.ref 0 0 0),(1,.int .i64 (k:Int)),(6,.int .i64 ((m:Int) - 1 - (i:Int)))],[.cells t [(1,.own 1 (verW (W ++ (bitsM m k).take i))),(1,.int .i64 ((W ++ (bitsM m k).take i).length:Int))],.row 5 1 (verW (W ++ (bitsM m k).take i)) (Bs (packW (W ++ (bitsM m k).take i)))]⟩)
   (fun i=>i≤m) (fun i=>m - i) 0 (by simp only [List.take_zero,List.append_nil,Int.cast_ofNat_Int,Int.sub_zero,go_sem,reduceDiv,reduceMod,↓reduceIte,reduceEqDiff,Nat.reduceBEq,reduceSub,Nat.reduceLT,reduceAdd,reduceLeDiff,reduceCtorEq,Int.reduceEq,Int.reduceNe,Int.reduceLT,Int.reduceLE,Int.reduceToNat]) (Nat.zero_le _) ⟨rfl,by rfl⟩ (fun i hi R hR=>?_)
  have hil:(W ++ (bitsM m k).take i).length=W.length+i:=by rw [List.length_append,List.length_take,bitsM_length]; omega
  by_cases him:i<m
  ·have c1:decide ((0:Int)≤(m:Int) - 1 - (i:Int))=true:=decide_eq_true (by omega)
   have e0:((m:Int) - 1 - (i:Int)).toNat=m - 1 - i:=by omega
   have e1:=shr_nat k (m - 1 - i)
   have hk:k / 2 ^ (m - 1 - i)<9223372036854775808:=Nat.lt_of_le_of_lt (Nat.div_le_self _ _) (by omega)
   have e2:=and1G (k / 2 ^ (m - 1 - i)) hk
   have hbd:=bit_dec0 (k / 2 ^ (m - 1 - i))
   have hsn:=bitsM_take m k i him
   simp only [b_dcode_0,c1,e0,e1,e2,dputS,dbQ,dW_pack,hbd,go_sem,reduceDiv,reduceMod,↓reduceIte,reduceEqDiff,Nat.reduceBEq,reduceSub,Nat.reduceLT,reduceAdd,reduceLeDiff,reduceCtorEq,Int.reduceEq,Int.reduceNe,Int.reduceLT,Int.reduceLE,Int.reduceToNat]
   refine ⟨by omega,⟨dOk_W _ (by omega),by omega⟩,by (first | omega | (simp only [lenOk,bytesOk,inI,IntKind.bits,List.length_append,Bs_len,List.length_cons,List.length_nil,List.length_map,List.length_take,List.length_drop,List.length_replicate]; omega)),hR _ (i+1) (by omega) (by omega) ?_⟩
   rw [hsn,← List.append_assoc,show (m:Int) - 1 - ((i+1:Nat):Int)=(m:Int) - 1 - (i:Int) - 1 by omega]
   rfl
  ·have c1:decide ((0:Int)≤(m:Int) - 1 - (i:Int))=false:=decide_eq_false (by omega)
   obtain rfl:i=m:=by omega
   have ht:(bitsM i k).take i=bitsM i k:=List.take_of_length_le (by rw [bitsM_length]; omega)
   rw [ht]
   simp only [b_dcode_0,r_dcode,c1,go_sem,reduceDiv,reduceMod,↓reduceIte,reduceEqDiff,Nat.reduceBEq,reduceSub,Nat.reduceLT,reduceAdd,reduceLeDiff,reduceCtorEq,Int.reduceEq,Int.reduceNe,Int.reduceLT,Int.reduceLE,Int.reduceToNat]
 ·cases hs
theorem signB_eq (k:Nat):signB k=bitsM (fixN k) (fixC k):=by unfold signB; rfl
def dsignS:Spec:=fun xs hp=>match xs,hp with
 | [.ref 0 0 0,.int .i64 k],[.cells t [(1,.own 1 v),(1,.int .i64 n)],.row 5 1 rv ys]=>some ⟨.tup [],dbQ t (dW n ys ++ signB k.toNat),dOk v rv n ys∧n≤9000000000∧0≤k∧k<288⟩
 | _,_=>none
set_option maxRecDepth 8000 in
theorem dsign_ok:FnOk Tryd.prog 87 dsignS:=by
 refine fn_slim2 Tryd.func87 s_dsign (Φ:=(phiL [(111,[],dcodeS)])) (phi_cons dcode_ok (by kernel_rfl) phi_nil) ?_
 intro xs hp r hs hp'
 unfold dsignS at hs
 split at hs
 ·rename_i k t v n rv ys
  injection hs with hs; subst hs
  obtain ⟨⟨h1,h2,rfl,h3,h4⟩,h5,h6,h7⟩:=hp'
  generalize dW n ys=W at *
  subst h1 h2 h3
  obtain ⟨k,rfl⟩:∃ p:Nat,k=p:=⟨k.toNat,by omega⟩
  simp only [Int.toNat_natCast,signB_eq]
  have hW:=dOk_W W (by omega)
  refine ⟨len_le (by kernel_rfl),?_⟩
  by_cases k1:k<144
  ·have c1:decide ((k:Int)<144)=true:=decide_eq_true (by omega)
   have e1:(48:Int)+(k:Int)=((48+k:Nat):Int):=by omega
   have q1:fixN k=8:=by unfold fixN; rw [if_pos k1]
   have q2:fixC k=48+k:=by unfold fixC; rw [if_pos k1]
   simp only [c_dsign,r_dsign,c1,e1,q1,q2,dcodeS,dbQ,dW_pack,Int.toNat_natCast,Int.reduceToNat,go_sem,reduceDiv,reduceMod,↓reduceIte,reduceEqDiff,Nat.reduceBEq,reduceSub,Nat.reduceLT,reduceAdd,reduceLeDiff,reduceCtorEq,Int.reduceEq,Int.reduceNe,Int.reduceLT,Int.reduceLE,Int.reduceToNat]
   exact ⟨by (first | omega | (simp only [lenOk,bytesOk,inI,IntKind.bits,List.length_append,Bs_len,List.length_cons,List.length_nil,List.length_map,List.length_take,List.length_drop,List.length_replicate]; omega)),hW,by omega,by omega,by omega⟩
  ·have c1:decide ((k:Int)<144)=false:=decide_eq_false (by omega)
   by_cases k2:k<256
   ·have c2:decide ((k:Int)<256)=true:=decide_eq_true (by omega)
    have e1:(400:Int)+(k:Int) - 144=((400+k - 144:Nat):Int):=by omega
    have q1:fixN k=9:=by unfold fixN; rw [if_neg k1,if_pos k2]
    have q2:fixC k=400+k - 144:=by unfold fixC; rw [if_neg k1,if_pos k2]
    simp only [c_dsign,r_dsign,c1,c2,e1,q1,q2,dcodeS,dbQ,dW_pack,Int.toNat_natCast,Int.reduceToNat,go_sem,reduceDiv,reduceMod,↓reduceIte,reduceEqDiff,Nat.reduceBEq,reduceSub,Nat.reduceLT,reduceAdd,reduceLeDiff,reduceCtorEq,Int.reduceEq,Int.reduceNe,Int.reduceLT,Int.reduceLE,Int.reduceToNat]
    exact ⟨by (first | omega | (simp only [lenOk,bytesOk,inI,IntKind.bits,List.length_append,Bs_len,List.length_cons,List.length_nil,List.length_map,List.length_take,List.length_drop,List.length_replicate]; omega)),by (first | omega | (simp only [lenOk,bytesOk,inI,IntKind.bits,List.length_append,Bs_len,List.length_cons,List.length_nil,List.length_map,List.length_take,List.length_drop,List.length_replicate]; omega)),hW,by omega,by omega,by omega⟩
   ·have c2:decide ((k:Int)<256)=false:=decide_eq_false (by omega)
    by_cases k3:k<280
    ·have c3:decide ((k:Int)<280)=true:=decide_eq_true (by omega)
     have e1:(k:Int) - 256=((k - 256:Nat):Int):=by omega
     have q1:fixN k=7:=by unfold fixN; rw [if_neg k1,if_neg k2,if_pos k3]
     have q2:fixC k=k - 256:=by unfold fixC; rw [if_neg k1,if_neg k2,if_pos k3]
     simp only [c_dsign,r_dsign,c1,c2,c3,e1,q1,q2,dcodeS,dbQ,dW_pack,Int.toNat_natCast,Int.reduceToNat,go_sem,reduceDiv,reduceMod,↓reduceIte,reduceEqDiff,Nat.reduceBEq,reduceSub,Nat.reduceLT,reduceAdd,reduceLeDiff,reduceCtorEq,Int.reduceEq,Int.reduceNe,Int.reduceLT,Int.reduceLE,Int.reduceToNat]
     exact ⟨by (first | omega | (simp only [lenOk,bytesOk,inI,IntKind.bits,List.length_append,Bs_len,List.length_cons,List.length_nil,List.length_map,List.length_take,List.length_drop,List.length_replicate]; omega)),hW,by omega,by omega,by omega⟩
    ·have c3:decide ((k:Int)<280)=false:=decide_eq_false (by omega)
     have e1:(192:Int)+(k:Int) - 280=((192+k - 280:Nat):Int):=by omega
     have q1:fixN k=8:=by unfold fixN; rw [if_neg k1,if_neg k2,if_neg k3]
     have q2:fixC k=192+k - 280:=by unfold fixC; rw [if_neg k1,if_neg k2,if_neg k3]
     simp only [c_dsign,r_dsign,c1,c2,c3,e1,q1,q2,dcodeS,dbQ,dW_pack,Int.toNat_natCast,Int.reduceToNat,go_sem,reduceDiv,reduceMod,↓reduceIte,reduceEqDiff,Nat.reduceBEq,reduceSub,Nat.reduceLT,reduceAdd,reduceLeDiff,reduceCtorEq,Int.reduceEq,Int.reduceNe,Int.reduceLT,Int.reduceLE,Int.reduceToNat]
     exact ⟨by (first | omega | (simp only [lenOk,bytesOk,inI,IntKind.bits,List.length_append,Bs_len,List.length_cons,List.length_nil,List.length_map,List.length_take,List.length_drop,List.length_replicate]; omega)),by (first | omega | (simp only [lenOk,bytesOk,inI,IntKind.bits,List.length_append,Bs_len,List.length_cons,List.length_nil,List.length_map,List.length_take,List.length_drop,List.length_replicate]; omega)),hW,by omega,by omega,by omega⟩
 ·cases hs
theorem andM (k e:Nat) (h:k<9223372036854775808) (he:e<40):bits BinOp.and IntKind.i64 (k:Int) (2 ^ e - 1)=((k % 2 ^ e:Nat):Int):=by
 have h1:(2:Nat) ^ e≤2 ^ 40:=Nat.pow_le_pow_right (by omega) (by omega)
 have h2:0<(2:Nat) ^ e:=Nat.two_pow_pos e
 have e1:(2:Int) ^ e - 1=((2 ^ e - 1:Nat):Int):=by
  have:((2 ^ e:Nat):Int)=(2:Int) ^ e:=by push_cast; rfl
  rw [← this]; omega
 rw [e1,i64_and k _ h (by omega),Nat.and_two_pow_sub_one_eq_mod]
theorem and3 (k:Nat) (h:k<9223372036854775808):bits BinOp.and IntKind.i64 (k:Int) 3=((k % 4:Nat):Int):=by
 have:=i64_and k 3 h (by omega)
 rw [show (3:Nat)=2 ^ 2 - 1 from rfl,Nat.and_two_pow_sub_one_eq_mod] at this
 exact this
theorem more_at {lim f k i:Nat} (hl:0<lim) (hev:lim % 2=0) (hk:k<lim * 2 ^ f) (hi:i≤moreN lim f k):(lim≤k / 2 ^ i→i<moreN lim f k)∧(k / 2 ^ i<lim→i=moreN lim f k):=by
 obtain ⟨m1,m2,m3⟩:=more_ok lim hl f k hk
 refine ⟨fun h=>?_,fun h=>?_⟩
 ·rcases Nat.lt_or_ge i (moreN lim f k) with h1 | h1
  ·exact h1
  ·have:i=moreN lim f k:=by omega
   rw [this] at h; omega
 ·rcases Nat.lt_or_ge i (moreN lim f k) with h1 | h1
  ·exfalso
   by_cases hlk:lim≤k
   ·have h3:=m3 hlk
    have h4:k / 2 ^ moreN lim f k≤k / 2 ^ (i+1):=Nat.div_le_div_left (Nat.pow_le_pow_right (by omega) (by omega)) (Nat.two_pow_pos _)
    rw [Nat.pow_succ,← Nat.div_div_eq_div_mul] at h4
    generalize k / 2 ^ i=z at *
    generalize k / 2 ^ moreN lim f k=y at *
    omega
   ·have:moreN lim f k=0:=by
     cases f with
     | zero=>rfl
     | succ f=>unfold moreN; rw [if_pos (by omega)]
    omega
  ·omega
def dlenS:Spec:=fun xs hp=>match xs,hp with
 | [.ref 0 0 0,.int .i64 m],[.cells t [(1,.own 1 v),(1,.int .i64 n)],.row 5 1 rv ys]=>some ⟨.tup [],dbQ t (dW n ys ++ (signB (lenS m.toNat).1 ++ bitsN (lenS m.toNat).2.1 (lenS m.toNat).2.2)),dOk v rv n ys∧n≤8000000000∧3≤m∧m≤258⟩
 | _,_=>none
theorem phD_ok:PhiOk Tryd.prog (phiL [(87,[],dsignS),(84,[],dnumS),(111,[],dcodeS)]):=phi_cons dsign_ok (by kernel_rfl) (phi_cons dnum_ok (by kernel_rfl) (phi_cons dcode_ok (by kernel_rfl) phi_nil))
theorem signB_len (k:Nat):(signB k).length≤9:=by rw [signB_eq,bitsM_length]; exact (fixN_ok k).2
set_option maxRecDepth 8000 in
theorem dlen_ok:FnOk Tryd.prog 85 dlenS:=by
 refine fn_slim2 Tryd.func85 s_dlen phD_ok ?_
 intro xs hp r hs hp'
 unfold dlenS at hs
 split at hs
 ·rename_i m t v n rv ys
  injection hs with hs; subst hs
  obtain ⟨⟨h1,h2,rfl,h3,h4⟩,h5,h6,h7⟩:=hp'
  generalize dW n ys=W at *
  subst h1 h2 h3
  obtain ⟨k,rfl⟩:∃ p:Nat,m=((p+3:Nat):Int):=⟨m.toNat - 3,by omega⟩
  simp only [Int.toNat_natCast]
  have hW:=dOk_W W (by omega)
  refine ⟨len_le (by kernel_rfl),?_⟩
  by_cases k1:k=255
  ·subst k1
   have c1:decide (((255+3:Nat):Int)=258)=true:=rfl
   have q1:lenS (255+3)=(285,0,0):=rfl
   simp only [c_dlen,r_dlen,c1,q1,dsignS,dbQ,dW_pack,bitsN_zero,List.append_nil,Int.toNat_natCast,Int.reduceToNat,go_sem,reduceDiv,reduceMod,↓reduceIte,reduceEqDiff,Nat.reduceBEq,reduceSub,Nat.reduceLT,reduceAdd,reduceLeDiff,reduceCtorEq,Int.reduceEq,Int.reduceNe,Int.reduceLT,Int.reduceLE,Int.reduceToNat]
   exact ⟨hW,by omega⟩
  ·have c1:decide (((k+3:Nat):Int)=258)=false:=decide_eq_false (by omega)
   have e1:((k+3:Nat):Int) - 3=(k:Int):=by omega
   simp only [c_dlen,c1,e1,dbQ,go_sem,reduceDiv,reduceMod,↓reduceIte,reduceEqDiff,Nat.reduceBEq,reduceSub,Nat.reduceLT,reduceAdd,reduceLeDiff,reduceCtorEq,Int.reduceEq,Int.reduceNe,Int.reduceLT,Int.reduceLE,Int.reduceToNat]
   refine ⟨by (first | omega | (simp only [lenOk,bytesOk,inI,IntKind.bits,List.length_append,Bs_len,List.length_cons,List.length_nil,List.length_map,List.length_take,List.length_drop,List.length_replicate]; omega)),?_⟩
   refine loop2P [] [0,4,5] [0,1] (fun i:Nat=>⟨[(0,.ref 0 0 0),(4,.int .i64 (k:Int)),(5,.int .i64 (i:Int))],[.cells t [(1,.own 1 (verW W)),(1,.int .i64 (W.length:Int))],.row 5 1 (verW W) (Bs (packW W))]⟩)
    (fun i=>i≤moreN 8 8 k) (fun i=>8 - i) 0 (by rfl) (Nat.zero_le _) ⟨rfl,by rfl⟩ (fun i hi R hR=>?_)
   obtain ⟨m1,m2,m3⟩:=more_ok 8 (by omega) 8 k (by omega)
   obtain ⟨a1,a2⟩:=more_at (lim:=8) (f:=8) (k:=k) (i:=i) (by omega) rfl (by omega) hi
   have e2:=shr_nat k i
   by_cases h8:8≤k / 2 ^ i
   ·have c2:decide ((8:Int)≤((k / 2 ^ i:Nat):Int))=true:=decide_eq_true (by omega)
    have:=a1 h8
    simp only [b_dlen_0,c2,e2,go_sem,reduceDiv,reduceMod,↓reduceIte,reduceEqDiff,Nat.reduceBEq,reduceSub,Nat.reduceLT,reduceAdd,reduceLeDiff,reduceCtorEq,Int.reduceEq,Int.reduceNe,Int.reduceLT,Int.reduceLE,Int.reduceToNat]
    exact ⟨by omega,by (first | omega | (simp only [lenOk,bytesOk,inI,IntKind.bits,List.length_append,Bs_len,List.length_cons,List.length_nil,List.length_map,List.length_take,List.length_drop,List.length_replicate]; omega)),hR _ (i+1) (by omega) (by omega) rfl⟩
   ·have c2:decide ((8:Int)≤((k / 2 ^ i:Nat):Int))=false:=decide_eq_false (by omega)
    have hM:=a2 (by omega)
    by_cases k8:k<8
    ·have c3:decide ((k:Int)<8)=true:=decide_eq_true (by omega)
     have e3:(257:Int)+(k:Int)=((257+k:Nat):Int):=by omega
     have q1:lenS (k+3)=(257+k,0,0):=by unfold lenS; rw [if_neg (by omega),if_pos (by omega),Nat.add_sub_cancel]
     simp only [b_dlen_0,t_dlen_0,r_dlen,c2,c3,e2,e3,q1,dsignS,dbQ,dW_pack,bitsN_zero,List.append_nil,Int.toNat_natCast,Int.reduceToNat,go_sem,reduceDiv,reduceMod,↓reduceIte,reduceEqDiff,Nat.reduceBEq,reduceSub,Nat.reduceLT,reduceAdd,reduceLeDiff,reduceCtorEq,Int.reduceEq,Int.reduceNe,Int.reduceLT,Int.reduceLE,Int.reduceToNat]
     exact ⟨by omega,by (first | omega | (simp only [lenOk,bytesOk,inI,IntKind.bits,List.length_append,Bs_len,List.length_cons,List.length_nil,List.length_map,List.length_take,List.length_drop,List.length_replicate]; omega)),hW,by omega,by omega,by omega⟩
    ·have c3:decide ((k:Int)<8)=false:=decide_eq_false (by omega)
     have q1:lenS (k+3)=(257+4 * (i+1)+k / 2 ^ i % 4,i,k % 2 ^ i):=by unfold lenS; rw [if_neg (by omega),if_neg (by omega),Nat.add_sub_cancel,← hM]
     have e4:=and3 (k / 2 ^ i) (Nat.lt_of_le_of_lt (Nat.div_le_self _ _) (by omega))
     have e5:=andM k i (by omega) (by omega)
     have e6:(257:Int)+4 * ((i:Int)+1)+((k / 2 ^ i % 4:Nat):Int)=((257+4 * (i+1)+k / 2 ^ i % 4:Nat):Int):=by omega
     simp only [b_dlen_0,t_dlen_0,r_dlen,c2,c3,e2,e4,e5,e6,q1,dsignS,dnumS,dbQ,dW_pack,← List.append_assoc,Int.one_mul,Int.toNat_natCast,Int.reduceToNat,go_sem,reduceDiv,reduceMod,↓reduceIte,reduceEqDiff,Nat.reduceBEq,reduceSub,Nat.reduceLT,reduceAdd,reduceLeDiff,reduceCtorEq,Int.reduceEq,Int.reduceNe,Int.reduceLT,Int.reduceLE,Int.reduceToNat]
     have h4' : 4≤k / 2 ^ i:=by have:=m3 (by omega); rw [← hM] at this; omega
     have h5' := Nat.div_mul_le_self k (2 ^ i)
     have h6' := Nat.mul_le_mul_right (2 ^ i) h4'
     have h7' : i≤5:=by
      rcases Nat.lt_or_ge i 6 with h | h
      ·omega
      ·have:(2:Nat) ^ 6≤2 ^ i:=Nat.pow_le_pow_right (by omega) h
       omega
     have h2i:(2:Nat) ^ i≤2 ^ 5:=Nat.pow_le_pow_right (by omega) h7'
     have hz:(2:Int) ^ i=((2 ^ i:Nat):Int):=by push_cast; rfl
     have hmod:=Nat.mod_lt k (Nat.two_pow_pos i)
     have hp2:=Nat.two_pow_pos i
     have hsl:=signB_len (257+4 * (i+1)+k / 2 ^ i % 4)
     have hWl:(W ++ signB (257+4 * (i+1)+k / 2 ^ i % 4)).length≤W.length+9:=by rw [List.length_append]; omega
     have hd:=dOk_W (W ++ signB (257+4 * (i+1)+k / 2 ^ i % 4)) (by omega)
     have hi1:inI ((2:Int) ^ i):=by rw [hz]; generalize 2 ^ i=z at *; (first | omega | (simp only [lenOk,bytesOk,inI,IntKind.bits,List.length_append,Bs_len,List.length_cons,List.length_nil,List.length_map,List.length_take,List.length_drop,List.length_replicate]; omega))
     have hi2:inI ((2:Int) ^ i - 1):=by rw [hz]; generalize 2 ^ i=z at *; (first | omega | (simp only [lenOk,bytesOk,inI,IntKind.bits,List.length_append,Bs_len,List.length_cons,List.length_nil,List.length_map,List.length_take,List.length_drop,List.length_replicate]; omega))
     exact ⟨by omega,by (first | omega | (simp only [lenOk,bytesOk,inI,IntKind.bits,List.length_append,Bs_len,List.length_cons,List.length_nil,List.length_map,List.length_take,List.length_drop,List.length_replicate]; omega)),by (first | omega | (simp only [lenOk,bytesOk,inI,IntKind.bits,List.length_append,Bs_len,List.length_cons,List.length_nil,List.length_map,List.length_take,List.length_drop,List.length_replicate]; omega)),by (first | omega | (simp only [lenOk,bytesOk,inI,IntKind.bits,List.length_append,Bs_len,List.length_cons,List.length_nil,List.length_map,List.length_take,List.length_drop,List.length_replicate]; omega)),by omega,by (first | omega | (simp only [lenOk,bytesOk,inI,IntKind.bits,List.length_append,Bs_len,List.length_cons,List.length_nil,List.length_map,List.length_take,List.length_drop,List.length_replicate]; omega)),⟨hW,by omega,by omega,by omega⟩,⟨by omega,hi1⟩,hi2,hd,by omega,by omega,by omega,by omega,by omega⟩
 ·cases hs
def ddistS:Spec:=fun xs hp=>match xs,hp with
 | [.ref 0 0 0,.int .i64 m],[.cells t [(1,.own 1 v),(1,.int .i64 n)],.row 5 1 rv ys]=>some ⟨.tup [],dbQ t (dW n ys ++ (bitsM 5 (distS m.toNat).1 ++ bitsN (distS m.toNat).2.1 (distS m.toNat).2.2)),dOk v rv n ys∧n≤8000000000∧1≤m∧m≤32768⟩
 | _,_=>none
set_option maxRecDepth 8000 in
theorem ddist_ok:FnOk Tryd.prog 86 ddistS:=by
 refine fn_slim2 Tryd.func86 s_ddist phD_ok ?_
 intro xs hp r hs hp'
 unfold ddistS at hs
 split at hs
 ·rename_i m t v n rv ys
  injection hs with hs; subst hs
  obtain ⟨⟨h1,h2,rfl,h3,h4⟩,h5,h6,h7⟩:=hp'
  generalize dW n ys=W at *
  subst h1 h2 h3
  obtain ⟨k,rfl⟩:∃ p:Nat,m=((p+1:Nat):Int):=⟨m.toNat - 1,by omega⟩
  simp only [Int.toNat_natCast]
  have hW:=dOk_W W (by omega)
  refine ⟨len_le (by kernel_rfl),?_⟩
  have e1:((k+1:Nat):Int) - 1=(k:Int):=by omega
  by_cases k4:k<4
  ·have c3:decide ((k:Int)<4)=true:=decide_eq_true (by omega)
   have q1:distS (k+1)=(k,0,0):=by unfold distS; rw [Nat.add_sub_cancel,if_pos k4]
   simp only [c_ddist,r_ddist,c3,e1,q1,dcodeS,dbQ,dW_pack,bitsN_zero,List.append_nil,Int.toNat_natCast,Int.reduceToNat,go_sem,reduceDiv,reduceMod,↓reduceIte,reduceEqDiff,Nat.reduceBEq,reduceSub,Nat.reduceLT,reduceAdd,reduceLeDiff,reduceCtorEq,Int.reduceEq,Int.reduceNe,Int.reduceLT,Int.reduceLE,Int.reduceToNat]
   exact ⟨by (first | omega | (simp only [lenOk,bytesOk,inI,IntKind.bits,List.length_append,Bs_len,List.length_cons,List.length_nil,List.length_map,List.length_take,List.length_drop,List.length_replicate]; omega)),hW,by omega,by omega,by omega⟩
  ·have c3:decide ((k:Int)<4)=false:=decide_eq_false (by omega)
   simp only [c_ddist,c3,e1,dbQ,go_sem,reduceDiv,reduceMod,↓reduceIte,reduceEqDiff,Nat.reduceBEq,reduceSub,Nat.reduceLT,reduceAdd,reduceLeDiff,reduceCtorEq,Int.reduceEq,Int.reduceNe,Int.reduceLT,Int.reduceLE,Int.reduceToNat]
   refine ⟨by (first | omega | (simp only [lenOk,bytesOk,inI,IntKind.bits,List.length_append,Bs_len,List.length_cons,List.length_nil,List.length_map,List.length_take,List.length_drop,List.length_replicate]; omega)),?_⟩
   refine loop2P [] [0,4,5] [0,1] (fun i:Nat=>⟨[(0,.ref 0 0 0),(4,.int .i64 (k:Int)),(5,.int .i64 (i:Int))],[.cells t [(1,.own 1 (verW W)),(1,.int .i64 (W.length:Int))],.row 5 1 (verW W) (Bs (packW W))]⟩)
    (fun i=>i≤moreN 4 15 k) (fun i=>15 - i) 0 (by rfl) (Nat.zero_le _) ⟨rfl,by rfl⟩ (fun i hi R hR=>?_)
   obtain ⟨m1,m2,m3⟩:=more_ok 4 (by omega) 15 k (by omega)
   obtain ⟨a1,a2⟩:=more_at (lim:=4) (f:=15) (k:=k) (i:=i) (by omega) rfl (by omega) hi
   have e2:=shr_nat k i
   by_cases h8:4≤k / 2 ^ i
   ·have c2:decide ((4:Int)≤((k / 2 ^ i:Nat):Int))=true:=decide_eq_true (by omega)
    have:=a1 h8
    simp only [b_ddist_0,c2,e2,go_sem,reduceDiv,reduceMod,↓reduceIte,reduceEqDiff,Nat.reduceBEq,reduceSub,Nat.reduceLT,reduceAdd,reduceLeDiff,reduceCtorEq,Int.reduceEq,Int.reduceNe,Int.reduceLT,Int.reduceLE,Int.reduceToNat]
    exact ⟨by omega,by (first | omega | (simp only [lenOk,bytesOk,inI,IntKind.bits,List.length_append,Bs_len,List.length_cons,List.length_nil,List.length_map,List.length_take,List.length_drop,List.length_replicate]; omega)),hR _ (i+1) (by omega) (by omega) rfl⟩
   ·have c2:decide ((4:Int)≤((k / 2 ^ i:Nat):Int))=false:=decide_eq_false (by omega)
    have hM:=a2 (by omega)
    have q1:distS (k+1)=(2 * (i+1)+k / 2 ^ i % 2,i,k % 2 ^ i):=by unfold distS; rw [Nat.add_sub_cancel,if_neg (by omega),← hM]
    have e4:=and1G (k / 2 ^ i) (Nat.lt_of_le_of_lt (Nat.div_le_self _ _) (by omega))
    have e5:=andM k i (by omega) (by omega)
    have e6:(2:Int) * ((i:Int)+1)+((k / 2 ^ i % 2:Nat):Int)=((2 * (i+1)+k / 2 ^ i % 2:Nat):Int):=by omega
    simp only [b_ddist_0,t_ddist_0,r_ddist,c2,e2,e4,e5,e6,q1,dcodeS,dnumS,dbQ,dW_pack,← List.append_assoc,Int.one_mul,Int.toNat_natCast,Int.reduceToNat,go_sem,reduceDiv,reduceMod,↓reduceIte,reduceEqDiff,Nat.reduceBEq,reduceSub,Nat.reduceLT,reduceAdd,reduceLeDiff,reduceCtorEq,Int.reduceEq,Int.reduceNe,Int.reduceLT,Int.reduceLE,Int.reduceToNat]
    have h4' : 2≤k / 2 ^ i:=by have:=m3 (by omega); rw [← hM] at this; omega
    have h5' := Nat.div_mul_le_self k (2 ^ i)
    have h6' := Nat.mul_le_mul_right (2 ^ i) h4'
    have h7' : i≤13:=by
     rcases Nat.lt_or_ge i 14 with h | h
     ·omega
     ·have:(2:Nat) ^ 14≤2 ^ i:=Nat.pow_le_pow_right (by omega) h
      omega
    have h2i:(2:Nat) ^ i≤2 ^ 13:=Nat.pow_le_pow_right (by omega) h7'
    have hz:(2:Int) ^ i=((2 ^ i:Nat):Int):=by push_cast; rfl
    have hmod:=Nat.mod_lt k (Nat.two_pow_pos i)
    have hp2:=Nat.two_pow_pos i
    have hWl:(W ++ bitsM 5 (2 * (i+1)+k / 2 ^ i % 2)).length≤W.length+5:=by rw [List.length_append,bitsM_length]; omega
    have hd:=dOk_W (W ++ bitsM 5 (2 * (i+1)+k / 2 ^ i % 2)) (by omega)
    have hi1:inI ((2:Int) ^ i):=by rw [hz]; generalize 2 ^ i=z at *; (first | omega | (simp only [lenOk,bytesOk,inI,IntKind.bits,List.length_append,Bs_len,List.length_cons,List.length_nil,List.length_map,List.length_take,List.length_drop,List.length_replicate]; omega))
    have hi2:inI ((2:Int) ^ i - 1):=by rw [hz]; generalize 2 ^ i=z at *; (first | omega | (simp only [lenOk,bytesOk,inI,IntKind.bits,List.length_append,Bs_len,List.length_cons,List.length_nil,List.length_map,List.length_take,List.length_drop,List.length_replicate]; omega))
    exact ⟨by omega,by (first | omega | (simp only [lenOk,bytesOk,inI,IntKind.bits,List.length_append,Bs_len,List.length_cons,List.length_nil,List.length_map,List.length_take,List.length_drop,List.length_replicate]; omega)),by (first | omega | (simp only [lenOk,bytesOk,inI,IntKind.bits,List.length_append,Bs_len,List.length_cons,List.length_nil,List.length_map,List.length_take,List.length_drop,List.length_replicate]; omega)),by omega,by (first | omega | (simp only [lenOk,bytesOk,inI,IntKind.bits,List.length_append,Bs_len,List.length_cons,List.length_nil,List.length_map,List.length_take,List.length_drop,List.length_replicate]; omega)),⟨hW,by omega,by omega,by omega⟩,⟨by omega,hi1⟩,hi2,hd,by omega,by omega,by omega,by omega,by omega⟩
 ·cases hs
theorem getM_putM:∀ (es:List (MK × AV)) (k k' : MK) (x:AV),getM (putM es k x) k' = if k=k' then some x else getM es k'
 | [],k,k',x=>by simp only [putM,getM]
 | (q,y) :: r,k,k',x=>by
  simp only [putM]
  by_cases h:q=k
  ·subst h
   rw [if_pos rfl]
   simp only [getM]
   by_cases h2:q=k'
   ·rw [if_pos h2,if_pos h2]
   ·rw [if_neg h2,if_neg h2,if_neg h2]
  ·rw [if_neg h]
   simp only [getM]
   by_cases h2:q=k'
   ·rw [if_pos h2,if_neg (fun e=>h (h2.trans e.symm)),if_pos h2]
   ·rw [if_neg h2,getM_putM r k k' x,if_neg h2]
def k3 (b:List UInt8) (p:Nat):List UInt8:=[b.getD p 0,b.getD (p+1) 0,b.getD (p+2) 0]
def seenM (b:List UInt8):Nat→List (MK × AV)
 | 0=>[]
 | k+1=>if k+3≤b.length then putM (seenM b k) (.a (k3 b k)) (.int .i64 (k:Int)) else seenM b k
theorem same3_k3 (b:List UInt8) (p q:Nat):same3 b p q=decide (k3 b p=k3 b q):=by
 unfold same3 k3
 simp only [List.cons.injEq,and_true,Bool.decide_and,Bool.and_assoc]
theorem getM_seen (b:List UInt8) (q:Nat):∀ k,k+2≤b.length→getM (seenM b k) (.a (k3 b q))=(lastP b q k).map fun (p:Nat)=>AV.int .i64 (p:Int)
 | 0,_=>rfl
 | k+1,h=>by
  unfold seenM lastP
  rw [if_pos (by omega),getM_putM,same3_k3]
  by_cases e:k3 b k=k3 b q
  ·rw [if_pos (by rw [e]),if_pos (by simpa using e)]; rfl
  ·rw [if_neg (fun h=>e (by injection h)),if_neg (by simpa using e),getM_seen b q k (by omega)]
theorem k3_take (b:List UInt8) (p:Nat) (h:p+3≤b.length):(b.drop p).take 3=k3 b p:=by
 unfold k3
 refine List.ext_getElem? fun i=>?_
 rw [List.getElem?_take]
 by_cases hi:i<3
 ·rw [if_pos hi,List.getElem?_drop]
  match i,hi with
  | 0,_=>simp [List.getElem?_eq_getElem (show p<b.length by omega),List.getD_eq_getElem?_getD]
  | 1,_=>simp [List.getElem?_eq_getElem (show p+1<b.length by omega),List.getD_eq_getElem?_getD]
  | 2,_=>simp [List.getElem?_eq_getElem (show p+2<b.length by omega),List.getD_eq_getElem?_getD]
 ·rw [if_neg hi,List.getElem?_eq_none (by simp; omega)]
def dnum0S:Spec:=fun xs hp=>match xs,hp with
 | [.ref 0 0 0,.int .i64 k,.int .i64 m],[.cells t [(1,.con (.slice none 0 0)),(1,.int .i64 0)]]=>some ⟨.tup [],dbQ t (bitsN m.toNat k.toNat),0≤k∧k<4294967296∧0≤m∧m≤40⟩
 | _,_=>none
set_option maxRecDepth 8000 in
theorem dnum0_ok:FnOk Tryd.prog 84 dnum0S:=by
 refine fn_slim2 Tryd.func84 s_dnum (Φ:=phiL [(110,[],dputS)]) (phi_cons dput_ok (by kernel_rfl) phi_nil) ?_
 intro xs hp r hs hp'
 unfold dnum0S at hs
 split at hs
 ·rename_i k m t
  injection hs with hs; subst hs
  obtain ⟨h6,h7,h8,h9⟩:=hp'
  obtain ⟨k,rfl⟩:∃ p:Nat,k=p:=⟨k.toNat,by omega⟩
  obtain ⟨m,rfl⟩:∃ p:Nat,m=p:=⟨m.toNat,by omega⟩
  simp only [Int.toNat_natCast]
  refine ⟨len_le (by kernel_rfl),?_⟩
  simp only [c_dnum,dbQ,go_sem,reduceDiv,reduceMod,↓reduceIte,reduceEqDiff,Nat.reduceBEq,reduceSub,Nat.reduceLT,reduceAdd,reduceLeDiff,reduceCtorEq,Int.reduceEq,Int.reduceNe,Int.reduceLT,Int.reduceLE,Int.reduceToNat]
  refine loop2P [(4096,5,1)] [0,1,7,8] [0,1] (fun i:Nat=>⟨[(0,.ref 0 0 0),(1,.int .i64 (k:Int)),(7,.int .i64 (m:Int)),(8,.int .i64 (i:Int))],[.cells t [(1,.own 1 (verW (bitsN i k))),(1,.int .i64 ((bitsN i k).length:Int))],.row 5 1 (verW (bitsN i k)) (Bs (packW (bitsN i k)))]⟩)
   (fun i=>i≤m) (fun i=>m - i) 0 (by simp only [bitsN_zero,Int.cast_ofNat_Int,go_sem,reduceDiv,reduceMod,↓reduceIte,reduceEqDiff,Nat.reduceBEq,reduceSub,Nat.reduceLT,reduceAdd,reduceLeDiff,reduceCtorEq,Int.reduceEq,Int.reduceNe,Int.reduceLT,Int.reduceLE,Int.reduceToNat]; rfl) (Nat.zero_le _) ⟨rfl,by rfl⟩ (fun i hi R hR=>?_)
  have hil:(bitsN i k).length=i:=bitsN_length i k
  by_cases him:i<m
  ·have c1:decide ((i:Int)<(m:Int))=true:=decide_eq_true (by omega)
   have e1:=shr_nat k i
   have hk:k / 2 ^ i<9223372036854775808:=Nat.lt_of_le_of_lt (Nat.div_le_self _ _) (by omega)
   have e2:=and1G (k / 2 ^ i) hk
   have hbd:=bit_dec k i
   have hsn:=bitsN_succ i k
   simp only [b_dnum_0,c1,e1,e2,dputS,dbQ,dW_pack,hbd,go_sem,reduceDiv,reduceMod,↓reduceIte,reduceEqDiff,Nat.reduceBEq,reduceSub,Nat.reduceLT,reduceAdd,reduceLeDiff,reduceCtorEq,Int.reduceEq,Int.reduceNe,Int.reduceLT,Int.reduceLE,Int.reduceToNat]
   refine ⟨by omega,⟨dOk_W _ (by omega),by omega⟩,by (first | omega | (simp only [lenOk,bytesOk,inI,IntKind.bits,List.length_append,Bs_len,List.length_cons,List.length_nil,List.length_map,List.length_take,List.length_drop,List.length_replicate]; omega)),hR _ (i+1) (by omega) (by omega) ?_⟩
   rw [hsn]
   rfl
  ·have c1:decide ((i:Int)<(m:Int))=false:=decide_eq_false (by omega)
   obtain rfl:i=m:=by omega
   simp only [b_dnum_0,r_dnum,c1,go_sem,reduceDiv,reduceMod,↓reduceIte,reduceEqDiff,Nat.reduceBEq,reduceSub,Nat.reduceLT,reduceAdd,reduceLeDiff,reduceCtorEq,Int.reduceEq,Int.reduceNe,Int.reduceLT,Int.reduceLE,Int.reduceToNat]
 ·cases hs
def intsM (es:List (MK × AV)):Prop:=∀ p∈es,∃ n,p.2=AV.int .i64 n
theorem ints_put {es:List (MK × AV)} {k:MK} {n:Int} (h:intsM es):intsM (putM es k (.int .i64 n)):=by
 induction es with
 | nil=>intro p hp; simp only [putM,List.mem_singleton] at hp; subst hp; exact ⟨n,rfl⟩
 | cons q r ih =>
  obtain ⟨k',y⟩:=q
  intro p hp
  simp only [putM] at hp
  split at hp
  ·rcases List.mem_cons.1 hp with rfl | hp
   ·exact ⟨n,rfl⟩
   ·exact h p (List.mem_cons_of_mem _ hp)
  ·rcases List.mem_cons.1 hp with rfl | hp
   ·exact h _ (List.mem_cons_self ..)
   ·exact ih (fun p hp=>h p (List.mem_cons_of_mem _ hp)) p hp
theorem ints_seen (b:List UInt8):∀ k,intsM (seenM b k)
 | 0=>fun p hp=>by cases hp
 | k+1=>by
  unfold seenM
  split
  ·exact ints_put (ints_seen b k)
  ·exact ints_seen b k
theorem ren_ints {σ:Nat→Option Nat} {es:List (MK × AV)} {ks:KS} (h:intsM es):renObj σ (.mp ks es)=some (.mp ks es):=by
 have:mapO (fun p:MK × AV=>(ren σ 4 p.2).map fun y=>(p.1,y)) es=some es:=by
  induction es with
  | nil=>rfl
  | cons q r ih =>
   obtain ⟨k',y⟩:=q
   obtain ⟨n,hn⟩:=h _ (List.mem_cons_self ..)
   simp only at hn
   subst hn
   have hi:=ih (fun p hp=>h p (List.mem_cons_of_mem _ hp))
   unfold mapO
   rw [hi]
   rfl
 show (mapO (fun p:MK × AV=>(ren σ 4 p.2).map fun y=>(p.1,y)) es).map (AObj.mp ks)=_
 rw [this]; rfl
theorem kp_mp {fr:List (List AV)} {slots:List Nat} {fr' : List (Nat × AV)} {T E:TypeId} {sz v:Nat} {xs:List AV} {ps:List (Nat × AV)} {ks:KS} {es:List (MK × AV)} (hes:intsM es)
  (h1:mapO (fun t=>(ren (posOf (List.range 3)) 4 (lk (flatF 0 fr) t)).map fun x=>(t,x)) slots=some fr') (h2:renObj (posOf (List.range 3)) (.cells T ps)=some (.cells T ps)) :
  kp slots 3 (toS ⟨fr,[.cells T ps,.row E sz v xs,.mp ks es]⟩)=some ⟨fr',[.cells T ps,.row E sz v xs,.mp ks es]⟩:=by
 have h3:lentO [.cells T ps,.row E sz v xs,.mp ks es] (List.range 3)=some [.cells T ps,.row E sz v xs,.mp ks es]:=by
  show mapO _ [0,1,2]=_
  unfold mapO
  simp only [List.getElem?_cons_zero,h2]
  unfold mapO
  simp only [List.getElem?_cons_zero,List.getElem?_cons_succ]
  unfold mapO
  simp only [List.getElem?_cons_zero,List.getElem?_cons_succ,ren_ints hes]
  rfl
 unfold kp
 show (match mapO (fun t=>(ren (posOf (List.range 3)) 4 (lk (flatF 0 fr) t)).map fun x=>(t,x)) slots,lentO [.cells T ps,.row E sz v xs,.mp ks es] (List.range 3) with
  | some fr,some hp=>some (⟨fr,hp⟩:St)
  | _,_=>none)=_
 rw [h1,h3]
theorem ent_mp {fr:List (List AV)} {slots:List Nat} {fr' : List (Nat × AV)} {T E:TypeId} {sz v:Nat} {xs:List AV} {ps:List (Nat × AV)} {ks:KS} {es:List (MK × AV)} {r:List AObj} (hes:intsM es)
  (h1:mapO (fun t=>(ren (posOf [0,1,2]) 4 (lk (flatF 0 fr) t)).map fun x=>(t,x)) slots=some fr') (h2:renObj (posOf [0,1,2]) (.cells T ps)=some (.cells T ps)) :
  ent [] slots [0,1,2] (toS ⟨fr,.cells T ps :: .row E sz v xs :: .mp ks es :: r⟩)=some ⟨fr',[.cells T ps,.row E sz v xs,.mp ks es]⟩:=by
 have h3:lentO (.cells T ps :: .row E sz v xs :: .mp ks es :: r) [0,1,2]=some [.cells T ps,.row E sz v xs,.mp ks es]:=by
  show mapO _ [0,1,2]=_
  unfold mapO
  simp only [List.getElem?_cons_zero,h2]
  unfold mapO
  simp only [List.getElem?_cons_zero,List.getElem?_cons_succ]
  unfold mapO
  simp only [List.getElem?_cons_zero,List.getElem?_cons_succ,ren_ints hes]
  rfl
 show (match mapO (fun t=>(ren (posOf [0,1,2]) 4 (lk (flatF 0 fr) t)).map fun x=>(t,x)) slots,lentO (.cells T ps :: .row E sz v xs :: .mp ks es :: r) [0,1,2] with
  | some fr,some hp=>some (⟨fr,hp⟩:St)
  | _,_=>none)=_
 rw [h1,h3]
end Go.Proofs.YtakolikdebfkeaaDoor
