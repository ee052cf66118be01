import Derived.Test.YtakolikdebfkeaaDoorQAMS
import Derived.Lib.ItoaNum
import Derived.Lib.ItoaMem
import Derived.Lib.AtoiAll
import Derived.Laws.BitsAllLaws
import Derived.Test.YtakolikdebfkeaaDoorQFPk1
import Derived.Test.YtakolikdebfkeaaDoorChecked
open Nat (reduceDiv reduceMod reduceSub reduceAdd reduceLeDiff reduceEqDiff)
set_option linter.all false
namespace Go.Proofs.YtakolikdebfkeaaDoor
open Go.RowKit
def o8 (n:Nat):UInt8:=UInt8.ofNat n
theorem o8_toNat (n:Nat):(o8 n).toNat=n % 256:=by simp [o8]
theorem ub_o8 (n:Nat):ub (o8 n)=.int .u8 ((n % 256:Nat):Int):=by simp [ub,o8_toNat]
theorem Bs_o8 (n:Nat) (h:n<256):[(.int .u8 (n:Int):AV)]=Bs [o8 n]:=by simp [Bs,ub_o8,Nat.mod_eq_of_lt h]
theorem i64_and (a b:Nat) (ha:a<9223372036854775808) (hb:b<9223372036854775808):bits .and .i64 (a:Int) (b:Int)=((a &&& b:Nat):Int):=by
 have hx:a &&& b<2 ^ 63:=Nat.and_lt_two_pow _ (by omega)
 have h1:(BitVec.ofInt 64 (a:Int)).toNat=a:=by
  rw [BitVec.ofInt_natCast,BitVec.toNat_ofNat]; exact Nat.mod_eq_of_lt (by omega)
 have h2:(BitVec.ofInt 64 (b:Int)).toNat=b:=by
  rw [BitVec.ofInt_natCast,BitVec.toNat_ofNat]; exact Nat.mod_eq_of_lt (by omega)
 show IntKind.i64.wrap ((BitVec.ofInt 64 (a:Int) &&& BitVec.ofInt 64 (b:Int)).toNat:Int)=_
 rw [BitVec.toNat_and,h1,h2,IntWalk.i64_in _ (by omega)]
theorem i64_or (a b:Nat) (ha:a<9223372036854775808) (hb:b<9223372036854775808):bits .or .i64 (a:Int) (b:Int)=((a ||| b:Nat):Int):=by
 have hx:a ||| b<2 ^ 63:=Nat.or_lt_two_pow (by omega) (by omega)
 have h1:(BitVec.ofInt 64 (a:Int)).toNat=a:=by
  rw [BitVec.ofInt_natCast,BitVec.toNat_ofNat]; exact Nat.mod_eq_of_lt (by omega)
 have h2:(BitVec.ofInt 64 (b:Int)).toNat=b:=by
  rw [BitVec.ofInt_natCast,BitVec.toNat_ofNat]; exact Nat.mod_eq_of_lt (by omega)
 show IntKind.i64.wrap ((BitVec.ofInt 64 (a:Int) ||| BitVec.ofInt 64 (b:Int)).toNat:Int)=_
 rw [BitVec.toNat_or,h1,h2,IntWalk.i64_in _ (by omega)]
theorem ub_wrap (n:Nat):(.int .u8 (IntKind.u8.wrap (n:Int)):AV)=ub (o8 n):=by
 rw [ub_o8,IntKind.wrap_u8']; rfl
theorem ub_low (n:Nat) (h:n<256):(.int .u8 (n:Int):AV)=ub (o8 n):=by rw [ub_o8,Nat.mod_eq_of_lt h]
theorem or_high (x k:Nat) (h:x<2 ^ k):x ||| 2 ^ k=x+2 ^ k:=by
 rw [Nat.or_comm]
 have:=nat_join k (2 ^ k) x (by simp) h
 omega
theorem or_128 (x:Nat) (h:x<256):x ||| 128=x % 128+128:=by
 by_cases h1:x<128
 ·rw [Nat.mod_eq_of_lt h1]; exact or_high x 7 (by omega)
 ·have e:x=128 ||| (x - 128):=by
   have:=nat_join 7 128 (x - 128) (by decide) (by omega)
   omega
  have e2:x % 128=x - 128:=by omega
  rw [e2]
  conv=>lhs; rw [e,Nat.or_comm,← Nat.or_assoc,Nat.or_self]
  have:=nat_join 7 128 (x - 128) (by decide) (by omega)
  omega
def beL (n:Nat):Nat→List UInt8
 | 0=>[]
 | k+1=>beL (n / 256) k ++ [o8 n]
theorem beL_len (n k:Nat):(beL n k).length=k:=by
 induction k generalizing n with
 | zero=>rfl
 | succ k ih=>simp [beL,ih]
def beN:List UInt8→Nat→Nat
 | [],a=>a
 | u :: l,a=>beN l (a * 256+u.toNat)
theorem beN_append (l m:List UInt8) (a:Nat):beN (l ++ m) a=beN m (beN l a):=by
 induction l generalizing a with
 | nil=>rfl
 | cons u l ih=>simp only [List.cons_append,beN,ih]
def lebL0 (n:Nat):List UInt8:=if n<128 then [o8 n] else o8 (n % 128+128) :: lebL0 (n / 128)
termination_by n
decreasing_by omega
theorem lebL_ex:∃ f:Nat→List UInt8,∀ n,f n=if n<128 then [o8 n] else o8 (n % 128+128) :: f (n / 128):=⟨lebL0,fun n=>by rw [lebL0]⟩
noncomputable def lebL:Nat→List UInt8:=Classical.choose lebL_ex
theorem lebL_eq (n:Nat):lebL n=if n<128 then [o8 n] else o8 (n % 128+128) :: lebL (n / 128):=Classical.choose_spec lebL_ex n
theorem lebL_small {n:Nat} (h:n<128):lebL n=[o8 n]:=by rw [lebL_eq,if_pos h]
theorem lebL_big {n:Nat} (h:128≤n):lebL n=o8 (n % 128+128) :: lebL (n / 128):=by rw [lebL_eq,if_neg (by omega)]
theorem lebL_pos (n:Nat):0<(lebL n).length:=by
 by_cases h:n<128
 ·rw [lebL_small h]; simp
 ·rw [lebL_big (by omega)]; simp
theorem lebL_pow (k n:Nat) (h:n<128 ^ (k+1)):(lebL n).length≤k+1:=by
 induction k generalizing n with
 | zero=>rw [lebL_small (by simpa using h)]; simp
 | succ k ih =>
  by_cases h1:n<128
  ·rw [lebL_small h1]; simp
  ·rw [lebL_big (by omega)]
   have:=ih (n / 128) (by rw [Nat.pow_succ] at h; omega)
   simp; omega
theorem lebL_len {n:Nat} (h:n<4611686018427387904):(lebL n).length≤9:=lebL_pow 8 n (by omega)
noncomputable def headL (k n:Nat):List UInt8:=if n<16 then [o8 (16 * k+n)] else o8 (128+16 * k+n % 16) :: lebL (n / 16)
theorem headL_len (k:Nat) {n:Nat} (h:n<4611686018427387904):(headL k n).length≤10:=by
 unfold headL
 split
 ·simp
 ·have:=lebL_len (n:=n / 16) (by omega)
  simp; omega
def storV:Nat→List UInt8→Nat
 | 0,_=>0
 | k+1,b=>if b.length≤65535 then 2 else 2+storV k (b.drop 65535)
def byOk (k:Nat) (ps:List AV):Prop:=ps=Bs (unB ps)∧k=1∧(unB ps).length≤100000000
def dstor0S:Spec:=fun xs hp=>match xs,hp with
 | [.sl k ps],[]=>some ⟨.own 0 (storV ((unB ps).length+1) (unB ps)),[.row 5 1 (storV ((unB ps).length+1) (unB ps)) (Bs (storW (unB ps)))],byOk k ps⟩
 | _,_=>none
theorem xor_u8:∀ m:Nat,m<256→bits BinOp.xor IntKind.u8 (if IntKind.u8.signed=true then -1 else IntKind.u8.max) (m:Int)=((255 - m:Nat):Int):=by decide +kernel
theorem B_nat (m:Nat) (h:m<256):AV.int .u8 (m:Int)=AV.int .u8 ((UInt8.ofNat m).toNat:Int):=by
 rw [show (UInt8.ofNat m).toNat=m by rw [UInt8.toNat_ofNat']; omega]
theorem storH_B (last n:Nat) (hl:last<2) (hn:n≤65535):[AV.int IntKind.u8 (last:Int),AV.int IntKind.u8 (IntKind.u8.wrap (n:Int)),AV.int IntKind.u8 (IntKind.u8.wrap ((n:Int) / 2 ^ 8)),AV.int IntKind.u8 (bits BinOp.xor IntKind.u8 (if IntKind.u8.signed=true then -1 else IntKind.u8.max) (IntKind.u8.wrap (n:Int))),AV.int IntKind.u8 (bits BinOp.xor IntKind.u8 (if IntKind.u8.signed=true then -1 else IntKind.u8.max) (IntKind.u8.wrap ((n:Int) / 2 ^ 8)))]=Bs (storH last n):=by
 have e1:IntKind.u8.wrap (n:Int)=((n % 256:Nat):Int):=by rw [IntKind.wrap_u8']; omega
 have e2:IntKind.u8.wrap ((n:Int) / 2 ^ 8)=((n / 256:Nat):Int):=by rw [IntKind.wrap_u8']; omega
 rw [e1,e2,xor_u8 _ (by omega),xor_u8 _ (by omega),B_nat last (by omega),B_nat (n % 256) (by omega),B_nat (n / 256) (by omega),B_nat (255 - n % 256) (by omega),B_nat (255 - n / 256) (by omega)]
 rfl
theorem storB_le:∀ (k:Nat) (b:List UInt8),(storB k b).length≤b.length+5 * k
 | 0,b=>by simp [storB]
 | k+1,b=>by
  unfold storB
  by_cases h:b.length≤65535
  ·rw [if_pos h,List.length_append,show (storH 1 b.length).length=5 from rfl]; omega
  ·rw [if_neg h,List.length_append,List.length_append,show (storH 0 65535).length=5 from rfl,List.length_take]
   have:=storB_le k (b.drop 65535)
   rw [List.length_drop] at this
   omega
structure DsI where
 f:Nat
 b:List UInt8
 out:List UInt8
 v:Nat
set_option maxRecDepth 8000 in
theorem dstor0_ok:FnOk Tryd.prog 56 dstor0S:=by
 refine fn_slim2 Tryd.func56 s_dstor (Φ:=phiL []) phi_nil ?_
 intro xs hp r hs hp'
 unfold dstor0S at hs
 split at hs
 ·rename_i k ps
  injection hs with hs; subst hs
  obtain ⟨h1,h2,h3⟩:=hp'
  generalize unB ps=b0 at *
  subst h1 h2
  refine ⟨len_le (by kernel_rfl),?_⟩
  simp only [c_dstor,go_sem,reduceDiv,reduceMod,↓reduceIte,reduceEqDiff,Nat.reduceBEq,reduceSub,Nat.reduceLT,reduceAdd,reduceLeDiff,reduceCtorEq,Int.reduceEq,Int.reduceNe,Int.reduceLT,Int.reduceLE,Int.reduceToNat]
  refine loop2P [(3,5,1)] [0,3] [0] (fun i:DsI=>⟨[(0,.sl 1 (Bs i.b)),(3,.own 0 i.v)],[.row 5 1 i.v (Bs i.out)]⟩) (fun i=>i.b.length<i.f∧i.b.length≤b0.length∧i.out ++ storB i.f i.b=storW b0∧i.v+storV i.f i.b=storV (b0.length+1) b0) (fun i=>i.f) ⟨b0.length+1,b0,[],0⟩ (by rfl) ⟨by simp only; omega,Nat.le_refl _,rfl,by simp only; omega⟩ ⟨rfl,by rfl⟩ (fun i hi R hR=>?_)
  obtain ⟨f,b,out,v⟩:=i
  obtain ⟨i1,i2,i3,i4⟩:=hi
  simp only at i1 i2 i3 i4
  cases f with
  | zero=>omega
  | succ f =>
   rw [show storB (f+1) b=(if b.length≤65535 then storH 1 b.length ++ b else storH 0 65535 ++ (b.take 65535 ++ storB f (b.drop 65535))) from rfl] at i3
   rw [show storV (f+1) b=(if b.length≤65535 then 2 else 2+storV f (b.drop 65535)) from rfl] at i4
   have hW:(storW b0).length≤600000005:=by
    have:=storB_le (b0.length+1) b0
    unfold storW; omega
   by_cases hl:b.length≤65535
   ·rw [if_pos hl] at i3 i4
    have emin:min (b.length:Int) 65535=(b.length:Int):=by omega
    have c1:decide ((b.length:Int)=(b.length:Int))=true:=decide_eq_true rfl
    have hh:=storH_B 1 b.length (by omega) hl
    rw [show ((1:Nat):Int)=1 from rfl] at hh
    have ho:=congrArg List.length i3
    rw [List.length_append,List.length_append,show (storH 1 b.length).length=5 from rfl] at ho
    have htk:(Bs b).take b.length=Bs b:=List.take_of_length_le (by rw [Bs_length]; omega)
    simp only [b_dstor_0,r_dstor,emin,c1,hh,htk,Bs_len,Int.toNat_natCast,Int.cast_ofNat_Int,← Bs_append,go_sem,reduceDiv,reduceMod,↓reduceIte,reduceEqDiff,Nat.reduceBEq,reduceSub,Nat.reduceLT,reduceAdd,reduceLeDiff,reduceCtorEq,Int.reduceEq,Int.reduceNe,Int.reduceLT,Int.reduceLE,Int.reduceToNat]
    have e4:out ++ storH 1 b.length ++ b=storW b0:=by rw [← i3,List.append_assoc]
    have e5:v+1+1=storV (b0.length+1) b0:=by omega
    have hs0:(storH 1 b.length).length=5:=rfl
    have hs1:(out ++ storH 1 b.length).length=out.length+5:=by rw [List.length_append]; rfl
    have hs2:(out ++ storH 1 b.length ++ b).length=out.length+5+b.length:=by rw [List.length_append,hs1]
    rw [e5]
    refine ⟨by simp only [lenOk,hs0]; omega,⟨by simp only [lenOk,hs1]; omega,by simp only [bytesOk,hs1]; omega⟩,by omega,⟨by simp only [lenOk,hs2]; omega,by simp only [bytesOk,hs2]; omega⟩,by omega,rfl,by rw [e4]⟩
   ·rw [if_neg hl] at i3 i4
    have emin:min (b.length:Int) 65535=65535:=by omega
    have c1:decide ((65535:Int)=(b.length:Int))=false:=decide_eq_false (by omega)
    have hh:=storH_B 0 65535 (by omega) (by omega)
    rw [show ((0:Nat):Int)=0 from rfl,show ((65535:Nat):Int)=65535 from rfl] at hh
    have ho:=congrArg List.length i3
    rw [List.length_append,List.length_append,List.length_append,show (storH 0 65535).length=5 from rfl,List.length_take] at ho
    have htk:(Bs b).take 65535=Bs (b.take 65535):=by simp [Bs]
    have hdp:(Bs b).drop 65535=Bs (b.drop 65535):=by simp [Bs]
    simp only [b_dstor_0,r_dstor,emin,c1,hh,htk,hdp,Bs_len,Int.toNat_natCast,Int.reduceToNat,Int.cast_ofNat_Int,← Bs_append,go_sem,reduceDiv,reduceMod,↓reduceIte,reduceEqDiff,Nat.reduceBEq,reduceSub,Nat.reduceLT,reduceAdd,reduceLeDiff,reduceCtorEq,Int.reduceEq,Int.reduceNe,Int.reduceLT,Int.reduceLE,Int.reduceToNat]
    have hs0:(storH 0 65535).length=5:=rfl
    have hs1:(out ++ storH 0 65535).length=out.length+5:=by rw [List.length_append]; rfl
    have hs2:(out ++ storH 0 65535 ++ b.take 65535).length=out.length+5+65535:=by rw [List.length_append,hs1,List.length_take]; omega
    have htl:(Bs b).take b.length=Bs b:=List.take_of_length_le (by rw [Bs_length]; omega)
    rw [htl,hdp]
    refine ⟨by simp only [lenOk,hs0]; omega,⟨by simp only [lenOk,hs1]; omega,by simp only [bytesOk,hs1]; omega⟩,by omega,⟨by simp only [lenOk,hs2]; omega,by simp only [bytesOk,hs2]; omega⟩,by omega,hR _ ⟨f,b.drop 65535,out ++ storH 0 65535 ++ b.take 65535,v+1+1⟩ ⟨by simp only [List.length_drop]; omega,by simp only [List.length_drop]; omega,by simp only; rw [← i3]; simp only [List.append_assoc],by simp only; omega⟩ (by simp only; omega) rfl⟩
 ·cases hs
structure AdI where
 i:Nat
 x:Nat
 y:Nat
def adlmS:Spec:=fun xs hp=>match xs,hp with
 | [.int .u32 1,.sl k ps],[]=>some ⟨.int .u32 (adlN (unB ps):Int),[],ps=Bs (unB ps)∧(k=1∨ps=[])∧(unB ps).length≤1000000000⟩
 | _,_=>none
theorem u32_wrap (n:Nat) (h:n<4294967296):IntKind.u32.wrap (n:Int)=(n:Int):=by
 simp only [IntKind.wrap,IntKind.signed,IntKind.bits]; simp; omega
theorem sl_k1 {k:Nat} {b:List UInt8} (h:k=1∨Bs b=[]) (h0:0<b.length):k=1:=by
 rcases h with h | h
 ·exact h
 ·have h' : (Bs b).length=0:=by rw [h]; rfl
  rw [Bs_length] at h'; omega
theorem u32_or (a b:Nat) (ha:a<4294967296) (hb:b<4294967296):bits .or .u32 (a:Int) (b:Int)=((a ||| b:Nat):Int):=by
 have hx:a ||| b<2 ^ 32:=Nat.or_lt_two_pow (by omega) (by omega)
 have h1:(BitVec.ofInt 32 (a:Int)).toNat=a:=by
  rw [BitVec.ofInt_natCast,BitVec.toNat_ofNat]; exact Nat.mod_eq_of_lt (by omega)
 have h2:(BitVec.ofInt 32 (b:Int)).toNat=b:=by
  rw [BitVec.ofInt_natCast,BitVec.toNat_ofNat]; exact Nat.mod_eq_of_lt (by omega)
 show IntKind.u32.wrap ((BitVec.ofInt 32 (a:Int) ||| BitVec.ofInt 32 (b:Int)).toNat:Int)=_
 rw [BitVec.toNat_or,h1,h2]
 exact u32_wrap _ hx
theorem adl_or (x y:Nat) (hx:x<65536) (hy:y<65536):bits .or .u32 (IntKind.u32.wrap ((y:Int) * 2 ^ 16)) (x:Int)=((y * 65536+x:Nat):Int):=by
 rw [show (y:Int) * 2 ^ 16=((y * 2 ^ 16:Nat):Int) by omega,u32_wrap _ (by omega),u32_or _ _ (by omega) (by omega),nat_join 16 (y * 2 ^ 16) x (by simp) hx]
set_option maxRecDepth 8000 in
theorem adlm_ok:FnOk Tryd.prog 54 adlmS:=by
 refine fn_slim2 Tryd.func54 s_adlm (Φ:=phiL []) phi_nil ?_
 intro xs hp r hs hp'
 unfold adlmS at hs
 split at hs
 ·rename_i k ps
  injection hs with hs; subst hs
  obtain ⟨h1,h2,h3⟩:=hp'
  generalize unB ps=b at *
  subst h1
  refine ⟨len_le (by kernel_rfl),?_⟩
  simp only [c_adlm,Bs_len,go_sem,reduceDiv,reduceMod,↓reduceIte,reduceEqDiff,Nat.reduceBEq,reduceSub,Nat.reduceLT,reduceAdd,reduceLeDiff,reduceCtorEq,Int.reduceEq,Int.reduceNe,Int.reduceLT,Int.reduceLE,Int.reduceToNat]
  refine loop2P [] [5,6,13,14,15] [] (fun i:AdI=>⟨[(5,.int .u32 (i.x:Int)),(6,.int .u32 (i.y:Int)),(13,.sl k (Bs b)),(14,.int .i64 (b.length:Int)),(15,.int .i64 (i.i:Int))],[]⟩) (fun i=>i.i≤b.length∧adlX (b.drop i.i) i.x i.y=adlX b 1 0∧i.x<65521∧i.y<65521) (fun i=>b.length - i.i) ⟨0,1,0⟩ (by rfl) ⟨Nat.zero_le _,rfl,by decide,by decide⟩ ⟨rfl,by rfl⟩ (fun i hi R hR=>?_)
  obtain ⟨i,x,y⟩:=i
  obtain ⟨i1,i2,i3,i4⟩:=hi
  simp only at i1 i2 i3 i4
  by_cases hl:i<b.length
  ·have c1:decide ((i:Int)<(b.length:Int))=true:=decide_eq_true (by omega)
   obtain rfl:k=1:=sl_k1 h2 (by omega)
   have hc:(b.getD i 0).toNat<256:=(b.getD i 0).toNat_lt
   have w1:IntKind.u32.wrap ((b.getD i 0).toNat:Int)=((b.getD i 0).toNat:Int):=u32_wrap _ (by omega)
   have w2:IntKind.u32.wrap ((x:Int)+((b.getD i 0).toNat:Int))=((x+(b.getD i 0).toNat:Nat):Int):=u32_wrap (x+(b.getD i 0).toNat) (by omega)
   have w3:((x+(b.getD i 0).toNat:Nat):Int).tmod 65521=(((x+(b.getD i 0).toNat) % 65521:Nat):Int):=rfl
   have w4:IntKind.u32.wrap ((y:Int)+(((x+(b.getD i 0).toNat) % 65521:Nat):Int))=((y+(x+(b.getD i 0).toNat) % 65521:Nat):Int):=u32_wrap (y+(x+(b.getD i 0).toNat) % 65521) (by omega)
   have w5:((y+(x+(b.getD i 0).toNat) % 65521:Nat):Int).tmod 65521=(((y+(x+(b.getD i 0).toNat) % 65521) % 65521:Nat):Int):=rfl
   simp only [b_adlm_0,c1,w1,w2,w3,w4,w5,Int.toNat_natCast,Bs_len,go_sem,reduceDiv,reduceMod,↓reduceIte,reduceEqDiff,Nat.reduceBEq,reduceSub,Nat.reduceLT,reduceAdd,reduceLeDiff,reduceCtorEq,Int.reduceEq,Int.reduceNe,Int.reduceLT,Int.reduceLE,Int.reduceToNat]
   have hd:adlX (b.drop (i+1)) ((x+(b.getD i 0).toNat) % 65521) ((y+(x+(b.getD i 0).toNat) % 65521) % 65521)=adlX b 1 0:=by
    rw [← i2,List.drop_eq_getElem_cons hl,show b.getD i 0=b[i] by simp [List.getD_eq_getElem?_getD,hl]]; rfl
   exact ⟨⟨by omega,by omega⟩,by (first | omega | (simp only [lenOk,bytesOk,inI,IntKind.bits,List.length_append,Bs_len,List.length_cons,List.length_nil,List.length_map,List.length_take,List.length_drop,List.length_replicate]; omega)),hR _ ⟨i+1,_,_⟩ ⟨by simp only; omega,hd,Nat.mod_lt _ (by omega),Nat.mod_lt _ (by omega)⟩ (by simp only; omega) rfl⟩
  ·have c1:decide ((i:Int)<(b.length:Int))=false:=decide_eq_false (by omega)
   obtain rfl:i=b.length:=by omega
   simp only [b_adlm_0,t_adlm_0,r_adlm,c1,go_sem,reduceDiv,reduceMod,↓reduceIte,reduceEqDiff,Nat.reduceBEq,reduceSub,Nat.reduceLT,reduceAdd,reduceLeDiff,reduceCtorEq,Int.reduceEq,Int.reduceNe,Int.reduceLT,Int.reduceLE,Int.reduceToNat]
   rw [List.drop_length] at i2
   have e:adlN b=y * 65536+x:=by unfold adlN; rw [← i2]; rfl
   rw [adl_or x y (by omega) (by omega),e]
 ·cases hs
def adlerS:Spec:=fun xs hp=>match xs,hp with
 | [.sl k ps],[]=>some ⟨.int .u32 (adlN (unB ps):Int),[],ps=Bs (unB ps)∧(k=1∨ps=[])∧(unB ps).length≤1000000000⟩
 | _,_=>none
theorem adler_ok:FnOk Tryd.prog 32 adlerS:=by
 refine fn_slim2 Tryd.func32 s_adler (Φ:=phiL [(54,[],adlmS)]) (phi_cons adlm_ok (by kernel_rfl) phi_nil) ?_
 intro xs hp r hs hp'
 unfold adlerS at hs
 split at hs
 ·rename_i k ps
  injection hs with hs; subst hs
  refine ⟨len_le (by kernel_rfl),?_⟩
  simp only [c_adler,r_adler,adlmS,go_sem,reduceDiv,reduceMod,↓reduceIte,reduceEqDiff,Nat.reduceBEq,reduceSub,Nat.reduceLT,reduceAdd,reduceLeDiff,reduceCtorEq,Int.reduceEq,Int.reduceNe,Int.reduceLT,Int.reduceLE,Int.reduceToNat]
  exact hp'
 ·cases hs
def zfourS:Spec:=fun xs hp=>match xs,hp with
 | [.int .u32 n],[]=>some ⟨.blob ((tail4 n.toNat).map U),[],0≤n∧n<4294967296⟩
 | _,_=>none
set_option maxRecDepth 8000 in
theorem zfour_ok:FnOk Tryd.prog 31 zfourS:=by
 refine fn_slim2 Tryd.func31 s_zfour (Φ:=phiL []) phi_nil ?_
 intro xs hp r hs hp'
 unfold zfourS at hs
 split at hs
 ·rename_i n
  injection hs with hs; subst hs
  obtain ⟨h1,h2⟩:=hp'
  obtain ⟨n,rfl⟩:=Int.eq_ofNat_of_zero_le h1
  refine ⟨len_le (by kernel_rfl),?_⟩
  simp only [c_zfour,r_zfour,go_sem,reduceDiv,reduceMod,↓reduceIte,reduceEqDiff,Nat.reduceBEq,reduceSub,Nat.reduceLT,reduceAdd,reduceLeDiff,reduceCtorEq,Int.reduceEq,Int.reduceNe,Int.reduceLT,Int.reduceLE,Int.reduceToNat]
  have w (z:Nat):IntKind.u8.wrap (z:Int)=((z % 256:Nat):Int):=by
   simp only [IntKind.wrap,IntKind.signed,IntKind.bits]; simp
  have e1:(n:Int) / 2 ^ 24=((n / 16777216:Nat):Int):=by omega
  have e2:(n:Int) / 2 ^ 16=((n / 65536:Nat):Int):=by omega
  have e3:(n:Int) / 2 ^ 8=((n / 256:Nat):Int):=by omega
  rw [e1,e2,e3,w,w,w,w]
  simp [tail4,U]
 ·cases hs
theorem packB_get:∀ (k:Nat) (W:List Bool) (i:Nat),W.length<k→(packB k W)[i]?=if 8 * i<W.length then some (UInt8.ofNat (valB ((W.drop (8 * i)).take 8))) else none
 | k+1,W,i,h=>by
  unfold packB
  by_cases hW:W=[]
  ·subst hW; rw [if_pos rfl]; simp
  ·have hl:0<W.length:=by
    cases W with
    | nil=>exact absurd rfl hW
    | cons _ _=>simp
   rw [if_neg hW]
   cases i with
   | zero=>rw [List.getElem?_cons_zero,if_pos (by omega)]; rfl
   | succ i =>
    rw [List.getElem?_cons_succ,packB_get k (W.drop 8) i (by rw [List.length_drop]; omega),List.length_drop,List.drop_drop,show 8+8 * i=8 * (i+1) by omega]
    by_cases h2:8 * (i+1)<W.length
    ·rw [if_pos h2,if_pos (by omega)]
    ·rw [if_neg h2,if_neg (by omega)]
theorem packW_get (W:List Bool) (i:Nat):(packW W)[i]?=if 8 * i<W.length then some (UInt8.ofNat (valB ((W.drop (8 * i)).take 8))) else none:=packB_get _ W i (by omega)
theorem packW_len (W:List Bool):(packW W).length=(W.length+7) / 8:=by obtain ⟨z,_,_,h⟩:=packW_bits W; exact h
theorem valB_snoc:∀ (x:List Bool) (b:Bool),valB (x ++ [b])=valB x+b.toNat * 2 ^ x.length
 | [],b=>by simp [valB]
 | c :: x,b=>by
  rw [List.cons_append,valB,valB,valB_snoc x b,List.length_cons,Nat.pow_succ,Nat.mul_add,← Nat.add_assoc]
  congr 1
  rw [Nat.mul_comm 2,Nat.mul_assoc]
def roomW (W:List Bool):List UInt8:=if W.length % 8=0 then packW W ++ [0] else packW W
theorem put_next (W:List Bool) (x:Bool):W.length / 8<(roomW W).length∧((roomW W).getD (W.length / 8) 0).toNat<2 ^ (W.length % 8) ∧
  packW (W ++ [x])=(roomW W).set (W.length / 8) (UInt8.ofNat (((roomW W).getD (W.length / 8) 0).toNat+x.toNat * 2 ^ (W.length % 8))):=by
 have hlen:=packW_len W
 have hrl:(roomW W).length=W.length / 8+1:=by
  unfold roomW
  split
  ·rw [List.length_append,hlen]; simp; omega
  ·rw [hlen]; omega
 have hdl:(W.drop (8 * (W.length / 8))).length=W.length % 8:=by rw [List.length_drop]; omega
 have hv:=valB_lt (W.drop (8 * (W.length / 8)))
 rw [hdl] at hv
 have h2:(2:Nat) ^ (W.length % 8)≤2 ^ 7:=Nat.pow_le_pow_right (by omega) (by omega)
 have hget:((roomW W).getD (W.length / 8) 0).toNat=valB (W.drop (8 * (W.length / 8))):=by
  unfold roomW
  split
  ·rename_i h0
   have e0:W.drop (8 * (W.length / 8))=[]:=List.drop_eq_nil_iff.2 (by omega)
   rw [e0,List.getD_eq_getElem?_getD,List.getElem?_append_right (by rw [hlen]; omega),hlen,show W.length / 8 - (W.length+7) / 8=0 by omega]; rfl
  ·rename_i h0
   rw [List.getD_eq_getElem?_getD,packW_get,if_pos (by omega),Option.getD_some,List.take_of_length_le (by rw [hdl]; omega),UInt8.toNat_ofNat']
   omega
 refine ⟨by omega,by rw [hget]; exact hv,?_⟩
 refine List.ext_getElem? fun i=>?_
 rw [packW_get,List.length_append,List.length_singleton,List.getElem?_set,hget]
 by_cases hi:W.length / 8=i
 ·subst hi
  rw [if_pos (by omega),if_pos rfl,if_pos (by omega),List.drop_append_of_le_length (by omega),List.take_of_length_le (by rw [List.length_append,hdl]; simp; omega),valB_snoc,hdl]
 ·rw [if_neg hi]
  by_cases hlt:i<W.length / 8
  ·rw [if_pos (by omega),List.drop_append_of_le_length (by omega),List.take_append_of_le_length (by rw [List.length_drop]; omega)]
   unfold roomW
   have hp:(packW W)[i]?=some (UInt8.ofNat (valB ((W.drop (8 * i)).take 8))):=by rw [packW_get,if_pos (by omega)]
   split
   ·rw [List.getElem?_append_left (by rw [hlen]; omega),hp]
   ·rw [hp]
  ·rw [if_neg (by omega),List.getElem?_eq_none (by omega)]
def dW (n:Int) (ys:List AV):List Bool:=(bitsOf (unB ys)).take n.toNat
theorem dW_pack (W:List Bool):dW (W.length:Int) (Bs (packW W))=W:=by
 obtain ⟨z,h,_⟩:=packW_bits W
 unfold dW
 rw [unB_Bs,h,Int.toNat_natCast,List.take_left']
 rfl
def verW (W:List Bool):Nat:=(packW W).length
def dOk (v rv:Nat) (n:Int) (ys:List AV):Prop:=ys=Bs (packW (dW n ys))∧n=((dW n ys).length:Int)∧v=rv∧rv=verW (dW n ys)∧n≤10000000000
def dbQ (t:TypeId) (W' : List Bool):List AObj:=[.cells t [(1,.own 1 (verW W')),(1,.int .i64 (W'.length:Int))],.row 5 1 (verW W') (Bs (packW W'))]
theorem or8:∀ e:Nat,e<8→∀ a:Nat,a<128→∀ b:Nat,b<2→a<2 ^ e→bits BinOp.or IntKind.u8 (a:Int) (IntKind.u8.wrap ((b:Int) * 2 ^ e))=((a+b * 2 ^ e:Nat):Int):=by decide +kernel
theorem Bs_setN (P:List UInt8) (i m:Nat) (h:m<256):(Bs P).set i (AV.int .u8 (m:Int))=Bs (P.set i (UInt8.ofNat m)):=by
 rw [B_nat m h]
 exact Bs_set
def dputS:Spec:=fun xs hp=>match xs,hp with
 | [.ref 0 0 0,.int .i64 x],[.cells t [(1,.own 1 v),(1,.int .i64 n)],.row 5 1 rv ys]=>some ⟨.tup [],dbQ t (dW n ys ++ [decide (x=1)]),dOk v rv n ys∧(x=0∨x=1)⟩
 | _,_=>none
set_option maxRecDepth 8000 in
theorem dput_ok:FnOk Tryd.prog 110 dputS:=by
 refine fn_slim2 Tryd.func110 s_dput (Φ:=phiL []) phi_nil ?_
 intro xs hp r hs hp'
 unfold dputS at hs
 split at hs
 ·rename_i x t v n rv ys
  injection hs with hs; subst hs
  obtain ⟨⟨h1,h2,rfl,h3,h4⟩,hx⟩:=hp'
  generalize dW n ys=W at *
  subst h1 h2 h3
  obtain ⟨b,rfl⟩:∃ b:Bool,x=(b.toNat:Int):=by
   rcases hx with rfl | rfl
   ·exact ⟨false,rfl⟩
   ·exact ⟨true,rfl⟩
  have hb:decide (((b.toNat:Nat):Int)=1)=b:=by cases b <;> rfl
  rw [hb]
  obtain ⟨p1,p2,p3⟩:=put_next W b
  have e1:(W.length:Int).tmod 8=((W.length % 8:Nat):Int):=by rw [Int.tmod_eq_emod_of_nonneg (by omega)]; omega
  have e2:(W.length:Int).tdiv 8=((W.length / 8:Nat):Int):=by rw [Int.tdiv_eq_ediv_of_nonneg (by omega)]; omega
  refine ⟨len_le (by kernel_rfl),?_⟩
  have hb2:b.toNat<2:=Bool.toNat_lt b
  have h27:(2:Nat) ^ (W.length % 8)≤2 ^ 7:=Nat.pow_le_pow_right (by omega) (by omega)
  have hbm:b.toNat * 2 ^ (W.length % 8)≤2 ^ (W.length % 8):=by
   have:=Nat.mul_le_mul_right (2 ^ (W.length % 8)) (show b.toNat≤1 by omega)
   omega
  have hor:=or8 (W.length % 8) (by omega) ((roomW W).getD (W.length / 8) 0).toNat (by omega) b.toNat hb2 p2
  have hset:=Bs_setN (roomW W) (W.length / 8) (((roomW W).getD (W.length / 8) 0).toNat+b.toNat * 2 ^ (W.length % 8)) (by omega)
  rw [← p3] at hset
  have hv:verW (W ++ [b])=(roomW W).length:=by unfold verW; rw [p3,List.length_set]
  have hl1:(((W ++ [b]).length:Nat):Int)=(W.length:Int)+1:=by rw [List.length_append]; rfl
  have hin:inI (((b.toNat:Nat):Int) * 2 ^ (W.length % 8)):=by
   have:((b.toNat:Nat):Int) * 2 ^ (W.length % 8)=((b.toNat * 2 ^ (W.length % 8):Nat):Int):=by push_cast; rfl
   rw [this]
   generalize b.toNat * 2 ^ (W.length % 8)=z at *
   generalize 2 ^ (W.length % 8)=z2 at *
   (first | omega | (simp only [lenOk,bytesOk,inI,IntKind.bits,List.length_append,Bs_len,List.length_cons,List.length_nil,List.length_map,List.length_take,List.length_drop,List.length_replicate]; omega))
  have hpl:=packW_len W
  clear hbm h27
  by_cases h0:W.length % 8=0
  ·have c1:decide (((W.length % 8:Nat):Int)=0)=true:=decide_eq_true (by omega)
   have hrm:roomW W=packW W ++ [0]:=if_pos h0
   have hz:Bs (packW W) ++ [AV.int IntKind.u8 0]=Bs (roomW W):=by rw [hrm,Bs_append]; rfl
   have hrl:(roomW W).length=verW W+1:=by rw [hrm,List.length_append]; rfl
   simp only [c_dput,r_dput,e1,e2,c1,dbQ,hz,hor,hset,hv,hl1,hrl,Bs_len,Int.toNat_natCast,go_sem,reduceDiv,reduceMod,↓reduceIte,reduceEqDiff,Nat.reduceBEq,reduceSub,Nat.reduceLT,reduceAdd,reduceLeDiff,reduceCtorEq,Int.reduceEq,Int.reduceNe,Int.reduceLT,Int.reduceLE,Int.reduceToNat]
   have hvw:verW W=(W.length+7) / 8:=hpl
   exact ⟨⟨by simp only [lenOk]; omega,by simp only [bytesOk]; omega⟩,by (first | omega | (simp only [lenOk,bytesOk,inI,IntKind.bits,List.length_append,Bs_len,List.length_cons,List.length_nil,List.length_map,List.length_take,List.length_drop,List.length_replicate]; omega)),by omega,by omega,⟨by omega,hin⟩,by omega,by omega,by (first | omega | (simp only [lenOk,bytesOk,inI,IntKind.bits,List.length_append,Bs_len,List.length_cons,List.length_nil,List.length_map,List.length_take,List.length_drop,List.length_replicate]; omega))⟩
  ·have c1:decide (((W.length % 8:Nat):Int)=0)=false:=decide_eq_false (by omega)
   have hrm:roomW W=packW W:=if_neg h0
   have hrl:(roomW W).length=verW W:=by rw [hrm]; rfl
   rw [hrm] at hor hset
   simp only [c_dput,r_dput,e1,e2,c1,dbQ,hor,hset,hv,hl1,hrl,Bs_len,Int.toNat_natCast,go_sem,reduceDiv,reduceMod,↓reduceIte,reduceEqDiff,Nat.reduceBEq,reduceSub,Nat.reduceLT,reduceAdd,reduceLeDiff,reduceCtorEq,Int.reduceEq,Int.reduceNe,Int.reduceLT,Int.reduceLE,Int.reduceToNat]
   exact ⟨by (first | omega | (simp only [lenOk,bytesOk,inI,IntKind.bits,List.length_append,Bs_len,List.length_cons,List.length_nil,List.length_map,List.length_take,List.length_drop,List.length_replicate]; omega)),by omega,by omega,⟨by omega,hin⟩,by omega,by omega,by (first | omega | (simp only [lenOk,bytesOk,inI,IntKind.bits,List.length_append,Bs_len,List.length_cons,List.length_nil,List.length_map,List.length_take,List.length_drop,List.length_replicate]; omega))⟩
 ·cases hs
theorem and1G (k:Nat) (h:k<9223372036854775808):bits BinOp.and IntKind.i64 (k:Int) 1=((k % 2:Nat):Int):=by
 have:=i64_and k 1 h (by omega)
 rw [Nat.and_one_is_mod] at this
 exact this
theorem bit_dec (k i:Nat):decide (((k / 2 ^ i % 2:Nat):Int)=1)=k.testBit i:=by
 rw [Nat.testBit_eq_decide_div_mod_eq]
 by_cases h:k / 2 ^ i % 2=1
 ·rw [h]; rfl
 ·rw [decide_eq_false h]; exact decide_eq_false (by omega)
theorem shr_nat (k i:Nat):((k:Nat):Int) / 2 ^ i=((k / 2 ^ i:Nat):Int):=by rw [Int.natCast_ediv,Int.natCast_pow]; rfl
theorem bitsN_zero (v:Nat):bitsN 0 v=[]:=by simp [bitsN]
theorem bitsN_succ (n v:Nat):bitsN (n+1) v=bitsN n v ++ [v.testBit n]:=by
 unfold bitsN
 rw [List.range_succ,List.map_append]; rfl
def dnumS:Spec:=fun xs hp=>match xs,hp with
 | [.ref 0 0 0,.int .i64 k,.int .i64 m],[.cells t [(1,.own 1 v),(1,.int .i64 n)],.row 5 1 rv ys]=>some ⟨.tup [],dbQ t (dW n ys ++ bitsN m.toNat k.toNat),dOk v rv n ys∧n≤9000000000∧0≤k∧k<4294967296∧0≤m∧m≤40⟩
 | _,_=>none
theorem dOk_W (W:List Bool) (h:W.length≤10000000000):dOk (verW W) (verW W) (W.length:Int) (Bs (packW W)):=⟨by rw [dW_pack],by rw [dW_pack],rfl,by rw [dW_pack],by omega⟩
set_option maxRecDepth 8000 in
theorem dnum_ok:FnOk Tryd.prog 84 dnumS:=by
 refine fn_slim2 Tryd.func84 s_dnum (Φ:=phiL [(110,[],dputS)]) (phi_cons dput_ok (by kernel_rfl) phi_nil) ?_
 intro xs hp r hs hp'
 unfold dnumS at hs
 split at hs
 ·rename_i k m t v n rv ys
  injection hs with hs; subst hs
  obtain ⟨⟨h1,h2,rfl,h3,h4⟩,h5,h6,h7,h8,h9⟩:=hp'
  generalize dW n ys=W at *
  subst h1 h2 h3
  obtain ⟨k,rfl⟩:∃ p:Nat,k=p:=⟨k.toNat,by omega⟩
  obtain ⟨m,rfl⟩:∃ p:Nat,m=p:=⟨m.toNat,by omega⟩
  simp only [Int.toNat_natCast]
  refine ⟨len_le (by kernel_rfl),?_⟩
  simp only [c_dnum,dbQ,go_sem,reduceDiv,reduceMod,↓reduceIte,reduceEqDiff,Nat.reduceBEq,reduceSub,Nat.reduceLT,reduceAdd,reduceLeDiff,reduceCtorEq,Int.reduceEq,Int.reduceNe,Int.reduceLT,Int.reduceLE,Int.reduceToNat]
  refine loop2P [] [0,1,7,8] [0,1] (fun i:Nat=>⟨[(0,.ref 0 0 0),(1,.int .i64 (k:Int)),(7,.int .i64 (m:Int)),(8,.int .i64 (i:Int))],[.cells t [(1,.own 1 (verW (W ++ bitsN i k))),(1,.int .i64 ((W ++ bitsN i k).length:Int))],.row 5 1 (verW (W ++ bitsN i k)) (Bs (packW (W ++ bitsN i k)))]⟩)
   (fun i=>i≤m) (fun i=>m - i) 0 (by simp only [bitsN_zero,List.append_nil,Int.cast_ofNat_Int,go_sem,reduceDiv,reduceMod,↓reduceIte,reduceEqDiff,Nat.reduceBEq,reduceSub,Nat.reduceLT,reduceAdd,reduceLeDiff,reduceCtorEq,Int.reduceEq,Int.reduceNe,Int.reduceLT,Int.reduceLE,Int.reduceToNat]) (Nat.zero_le _) ⟨rfl,by rfl⟩ (fun i hi R hR=>?_)
  have hil:(W ++ bitsN i k).length=W.length+i:=by rw [List.length_append,bitsN_length]
  by_cases him:i<m
  ·have c1:decide ((i:Int)<(m:Int))=true:=decide_eq_true (by omega)
   have e1:=shr_nat k i
   have hk:k / 2 ^ i<9223372036854775808:=Nat.lt_of_le_of_lt (Nat.div_le_self _ _) (by omega)
   have e2:=and1G (k / 2 ^ i) hk
   have hbd:=bit_dec k i
   have hsn:=bitsN_succ i k
   simp only [b_dnum_0,c1,e1,e2,dputS,dbQ,dW_pack,hbd,go_sem,reduceDiv,reduceMod,↓reduceIte,reduceEqDiff,Nat.reduceBEq,reduceSub,Nat.reduceLT,reduceAdd,reduceLeDiff,reduceCtorEq,Int.reduceEq,Int.reduceNe,Int.reduceLT,Int.reduceLE,Int.reduceToNat]
   refine ⟨by omega,⟨dOk_W _ (by omega),by omega⟩,by (first | omega | (simp only [lenOk,bytesOk,inI,IntKind.bits,List.length_append,Bs_len,List.length_cons,List.length_nil,List.length_map,List.length_take,List.length_drop,List.length_replicate]; omega)),hR _ (i+1) (by omega) (by omega) ?_⟩
   rw [hsn,← List.append_assoc]
   rfl
  ·have c1:decide ((i:Int)<(m:Int))=false:=decide_eq_false (by omega)
   obtain rfl:i=m:=by omega
   simp only [b_dnum_0,r_dnum,c1,go_sem,reduceDiv,reduceMod,↓reduceIte,reduceEqDiff,Nat.reduceBEq,reduceSub,Nat.reduceLT,reduceAdd,reduceLeDiff,reduceCtorEq,Int.reduceEq,Int.reduceNe,Int.reduceLT,Int.reduceLE,Int.reduceToNat]
 ·cases hs
theorem bitsM_take (m k i:Nat) (h:i<m):(bitsM m k).take (i+1)=(bitsM m k).take i ++ [(k / 2 ^ (m - 1 - i)).testBit 0]:=by
 rw [List.take_add_one,bitsM_get h]; rfl
theorem bit_dec0 (q:Nat):decide (((q % 2:Nat):Int)=1)=q.testBit 0:=by
 have:=bit_dec q 0
 rw [Nat.pow_zero,Nat.div_one] at this; exact this
def dcodeS:Spec:=fun xs hp=>match xs,hp with
 | [.ref 0 0 0,.int .i64 k,.int .i64 m],[.cells t [(1,.own 1 v),(1,.int .i64 n)],.row 5 1 rv ys]=>some ⟨.tup [],dbQ t (dW n ys ++ bitsM m.toNat k.toNat),dOk v rv n ys∧n≤9000000000∧0≤k∧k<4294967296∧0≤m∧m≤40⟩
 | _,_=>none
set_option maxRecDepth 8000 in
theorem dcode_ok:FnOk Tryd.prog 111 dcodeS:=by
 refine fn_slim2 Tryd.func111 s_dcode (Φ:=phiL [(110,[],dputS)]) (phi_cons dput_ok (by kernel_rfl) phi_nil) ?_
 intro xs hp r hs hp'
 unfold dcodeS at hs
 split at hs
 ·rename_i k m t v n rv ys
  injection hs with hs; subst hs
  obtain ⟨⟨h1,h2,rfl,h3,h4⟩,h5,h6,h7,h8,h9⟩:=hp'
  generalize dW n ys=W at *
  subst h1 h2 h3
  obtain ⟨k,rfl⟩:∃ p:Nat,k=p:=⟨k.toNat,by omega⟩
  obtain ⟨m,rfl⟩:∃ p:Nat,m=p:=⟨m.toNat,by omega⟩
  simp only [Int.toNat_natCast]
  refine ⟨len_le (by kernel_rfl),?_⟩
  simp only [c_dcode,dbQ,go_sem,reduceDiv,reduceMod,↓reduceIte,reduceEqDiff,Nat.reduceBEq,reduceSub,Nat.reduceLT,reduceAdd,reduceLeDiff,reduceCtorEq,Int.reduceEq,Int.reduceNe,Int.reduceLT,Int.reduceLE,Int.reduceToNat]
  refine ⟨by (first | omega | (simp only [lenOk,bytesOk,inI,IntKind.bits,List.length_append,Bs_len,List.length_cons,List.length_nil,List.length_map,List.length_take,List.length_drop,List.length_replicate]; omega)),?_⟩
  refine loop2P [] [0,1,6] [0,1] (fun i:Nat=>⟨[(0,.ref 0 0 0),(1,.int .i64 (k:Int)),(6,.int .i64 ((m:Int) - 1 - (i:Int)))],[.cells t [(1,.own 1 (verW (W ++ (bitsM m k).take i))),(1,.int .i64 ((W ++ (bitsM m k).take i).length:Int))],.row 5 1 (verW (W ++ (bitsM m k).take i)) (Bs (packW (W ++ (bitsM m k).take i)))]⟩)
   (fun i=>i≤m) (fun i=>m - i) 0 (by simp only [List.take_zero,List.append_nil,Int.cast_ofNat_Int,Int.sub_zero,go_sem,reduceDiv,reduceMod,↓reduceIte,reduceEqDiff,Nat.reduceBEq,reduceSub,Nat.reduceLT,reduceAdd,reduceLeDiff,reduceCtorEq,Int.reduceEq,Int.reduceNe,Int.reduceLT,Int.reduceLE,Int.reduceToNat]) (Nat.zero_le _) ⟨rfl,by rfl⟩ (fun i hi R hR=>?_)
  have hil:(W ++ (bitsM m k).take i).length=W.length+i:=by rw [List.length_append,List.length_take,bitsM_length]; omega
  by_cases him:i<m
  ·have c1:decide ((0:Int)≤(m:Int) - 1 - (i:Int))=true:=decide_eq_true (by omega)
   have e0:((m:Int) - 1 - (i:Int)).toNat=m - 1 - i:=by omega
   have e1:=shr_nat k (m - 1 - i)
   have hk:k / 2 ^ (m - 1 - i)<9223372036854775808:=Nat.lt_of_le_of_lt (Nat.div_le_self _ _) (by omega)
   have e2:=and1G (k / 2 ^ (m - 1 - i)) hk
   have hbd:=bit_dec0 (k / 2 ^ (m - 1 - i))
   have hsn:=bitsM_take m k i him
   simp only [b_dcode_0,c1,e0,e1,e2,dputS,dbQ,dW_pack,hbd,go_sem,reduceDiv,reduceMod,↓reduceIte,reduceEqDiff,Nat.reduceBEq,reduceSub,Nat.reduceLT,reduceAdd,reduceLeDiff,reduceCtorEq,Int.reduceEq,Int.reduceNe,Int.reduceLT,Int.reduceLE,Int.reduceToNat]
   refine ⟨by omega,⟨dOk_W _ (by omega),by omega⟩,by (first | omega | (simp only [lenOk,bytesOk,inI,IntKind.bits,List.length_append,Bs_len,List.length_cons,List.length_nil,List.length_map,List.length_take,List.length_drop,List.length_replicate]; omega)),hR _ (i+1) (by omega) (by omega) ?_⟩
   rw [hsn,← List.append_assoc,show (m:Int) - 1 - ((i+1:Nat):Int)=(m:Int) - 1 - (i:Int) - 1 by omega]
   rfl
  ·have c1:decide ((0:Int)≤(m:Int) - 1 - (i:Int))=false:=decide_eq_false (by omega)
   obtain rfl:i=m:=by omega
   have ht:(bitsM i k).take i=bitsM i k:=List.take_of_length_le (by rw [bitsM_length]; omega)
   rw [ht]
   simp only [b_dcode_0,r_dcode,c1,go_sem,reduceDiv,reduceMod,↓reduceIte,reduceEqDiff,Nat.reduceBEq,reduceSub,Nat.reduceLT,reduceAdd,reduceLeDiff,reduceCtorEq,Int.reduceEq,Int.reduceNe,Int.reduceLT,Int.reduceLE,Int.reduceToNat]
 ·cases hs
theorem signB_eq (k:Nat):signB k=bitsM (fixN k) (fixC k):=by unfold signB; rfl
def dsignS:Spec:=fun xs hp=>match xs,hp with
 | [.ref 0 0 0,.int .i64 k],[.cells t [(1,.own 1 v),(1,.int .i64 n)],.row 5 1 rv ys]=>some ⟨.tup [],dbQ t (dW n ys ++ signB k.toNat),dOk v rv n ys∧n≤9000000000∧0≤k∧k<288⟩
 | _,_=>none
set_option maxRecDepth 8000 in
theorem dsign_ok:FnOk Tryd.prog 87 dsignS:=by
 refine fn_slim2 Tryd.func87 s_dsign (Φ:=(phiL [(111,[],dcodeS)])) (phi_cons dcode_ok (by kernel_rfl) phi_nil) ?_
 intro xs hp r hs hp'
 unfold dsignS at hs
 split at hs
 ·rename_i k t v n rv ys
  injection hs with hs; subst hs
  obtain ⟨⟨h1,h2,rfl,h3,h4⟩,h5,h6,h7⟩:=hp'
  generalize dW n ys=W at *
  subst h1 h2 h3
  obtain ⟨k,rfl⟩:∃ p:Nat,k=p:=⟨k.toNat,by omega⟩
  simp only [Int.toNat_natCast,signB_eq]
  have hW:=dOk_W W (by omega)
  refine ⟨len_le (by kernel_rfl),?_⟩
  by_cases k1:k<144
  ·have c1:decide ((k:Int)<144)=true:=decide_eq_true (by omega)
   have e1:(48:Int)+(k:Int)=((48+k:Nat):Int):=by omega
   have q1:fixN k=8:=by unfold fixN; rw [if_pos k1]
   have q2:fixC k=48+k:=by unfold fixC; rw [if_pos k1]
   simp only [c_dsign,r_dsign,c1,e1,q1,q2,dcodeS,dbQ,dW_pack,Int.toNat_natCast,Int.reduceToNat,go_sem,reduceDiv,reduceMod,↓reduceIte,reduceEqDiff,Nat.reduceBEq,reduceSub,Nat.reduceLT,reduceAdd,reduceLeDiff,reduceCtorEq,Int.reduceEq,Int.reduceNe,Int.reduceLT,Int.reduceLE,Int.reduceToNat]
   exact ⟨by (first | omega | (simp only [lenOk,bytesOk,inI,IntKind.bits,List.length_append,Bs_len,List.length_cons,List.length_nil,List.length_map,List.length_take,List.length_drop,List.length_replicate]; omega)),hW,by omega,by omega,by omega⟩
  ·have c1:decide ((k:Int)<144)=false:=decide_eq_false (by omega)
   by_cases k2:k<256
   ·have c2:decide ((k:Int)<256)=true:=decide_eq_true (by omega)
    have e1:(400:Int)+(k:Int) - 144=((400+k - 144:Nat):Int):=by omega
    have q1:fixN k=9:=by unfold fixN; rw [if_neg k1,if_pos k2]
    have q2:fixC k=400+k - 144:=by unfold fixC; rw [if_neg k1,if_pos k2]
    simp only [c_dsign,r_dsign,c1,c2,e1,q1,q2,dcodeS,dbQ,dW_pack,Int.toNat_natCast,Int.reduceToNat,go_sem,reduceDiv,reduceMod,↓reduceIte,reduceEqDiff,Nat.reduceBEq,reduceSub,Nat.reduceLT,reduceAdd,reduceLeDiff,reduceCtorEq,Int.reduceEq,Int.reduceNe,Int.reduceLT,Int.reduceLE,Int.reduceToNat]
    exact ⟨by (first | omega | (simp only [lenOk,bytesOk,inI,IntKind.bits,List.length_append,Bs_len,List.length_cons,List.length_nil,List.length_map,List.length_take,List.length_drop,List.length_replicate]; omega)),by (first | omega | (simp only [lenOk,bytesOk,inI,IntKind.bits,List.length_append,Bs_len,List.length_cons,List.length_nil,List.length_map,List.length_take,List.length_drop,List.length_replicate]; omega)),hW,by omega,by omega,by omega⟩
   ·have c2:decide ((k:Int)<256)=false:=decide_eq_false (by omega)
    by_cases k3:k<280
    ·have c3:decide ((k:Int)<280)=true:=decide_eq_true (by omega)
     have e1:(k:Int) - 256=((k - 256:Nat):Int):=by omega
     have q1:fixN k=7:=by unfold fixN; rw [if_neg k1,if_neg k2,if_pos k3]
     have q2:fixC k=k - 256:=by unfold fixC; rw [if_neg k1,if_neg k2,if_pos k3]
     simp only [c_dsign,r_dsign,c1,c2,c3,e1,q1,q2,dcodeS,dbQ,dW_pack,Int.toNat_natCast,Int.reduceToNat,go_sem,reduceDiv,reduceMod,↓reduceIte,reduceEqDiff,Nat.reduceBEq,reduceSub,Nat.reduceLT,reduceAdd,reduceLeDiff,reduceCtorEq,Int.reduceEq,Int.reduceNe,Int.reduceLT,Int.reduceLE,Int.reduceToNat]
     exact ⟨by (first | omega | (simp only [lenOk,bytesOk,inI,IntKind.bits,List.length_append,Bs_len,List.length_cons,List.length_nil,List.length_map,List.length_take,List.length_drop,List.length_replicate]; omega)),hW,by omega,by omega,by omega⟩
    ·have c3:decide ((k:Int)<280)=false:=decide_eq_false (by omega)
     have e1:(192:Int)+(k:Int) - 280=((192+k - 280:Nat):Int):=by omega
     have q1:fixN k=8:=by unfold fixN; rw [if_neg k1,if_neg k2,if_neg k3]
     have q2:fixC k=192+k - 280:=by unfold fixC; rw [if_neg k1,if_neg k2,if_neg k3]
     simp only [c_dsign,r_dsign,c1,c2,c3,e1,q1,q2,dcodeS,dbQ,dW_pack,Int.toNat_natCast,Int.reduceToNat,go_sem,reduceDiv,reduceMod,↓reduceIte,reduceEqDiff,Nat.reduceBEq,reduceSub,Nat.reduceLT,reduceAdd,reduceLeDiff,reduceCtorEq,Int.reduceEq,Int.reduceNe,Int.reduceLT,Int.reduceLE,Int.reduceToNat]
     exact ⟨by (first | omega | (simp only [lenOk,bytesOk,inI,IntKind.bits,List.length_append,Bs_len,List.length_cons,List.length_nil,List.length_map,List.length_take,List.length_drop,List.length_replicate]; omega)),by (first | omega | (simp only [lenOk,bytesOk,inI,IntKind.bits,List.length_append,Bs_len,List.length_cons,List.length_nil,List.length_map,List.length_take,List.length_drop,List.length_replicate]; omega)),hW,by omega,by omega,by omega⟩
 ·cases hs
theorem andM (k e:Nat) (h:k<9223372036854775808) (he:e<40):bits BinOp.and IntKind.i64 (k:Int) (2 ^ e - 1)=((k % 2 ^ e:Nat):Int):=by
 have h1:(2:Nat) ^ e≤2 ^ 40:=Nat.pow_le_pow_right (by omega) (by omega)
 have h2:0<(2:Nat) ^ e:=Nat.two_pow_pos e
 have e1:(2:Int) ^ e - 1=((2 ^ e - 1:Nat):Int):=by
  have:((2 ^ e:Nat):Int)=(2:Int) ^ e:=by push_cast; rfl
  rw [← this]; omega
 rw [e1,i64_and k _ h (by omega),Nat.and_two_pow_sub_one_eq_mod]
theorem and3 (k:Nat) (h:k<9223372036854775808):bits BinOp.and IntKind.i64 (k:Int) 3=((k % 4:Nat):Int):=by
 have:=i64_and k 3 h (by omega)
 rw [show (3:Nat)=2 ^ 2 - 1 from rfl,Nat.and_two_pow_sub_one_eq_mod] at this
 exact this
theorem more_at {lim f k i:Nat} (hl:0<lim) (hev:lim % 2=0) (hk:k<lim * 2 ^ f) (hi:i≤moreN lim f k):(lim≤k / 2 ^ i→i<moreN lim f k)∧(k / 2 ^ i<lim→i=moreN lim f k):=by
 obtain ⟨m1,m2,m3⟩:=more_ok lim hl f k hk
 refine ⟨fun h=>?_,fun h=>?_⟩
 ·rcases Nat.lt_or_ge i (moreN lim f k) with h1 | h1
  ·exact h1
  ·have:i=moreN lim f k:=by omega
   rw [this] at h; omega
 ·rcases Nat.lt_or_ge i (moreN lim f k) with h1 | h1
  ·exfalso
   by_cases hlk:lim≤k
   ·have h3:=m3 hlk
    have h4:k / 2 ^ moreN lim f k≤k / 2 ^ (i+1):=Nat.div_le_div_left (Nat.pow_le_pow_right (by omega) (by omega)) (Nat.two_pow_pos _)
    rw [Nat.pow_succ,← Nat.div_div_eq_div_mul] at h4
    generalize k / 2 ^ i=z at *
    generalize k / 2 ^ moreN lim f k=y at *
    omega
   ·have:moreN lim f k=0:=by
     cases f with
     | zero=>rfl
     | succ f=>unfold moreN; rw [if_pos (by omega)]
    omega
  ·omega
def dlenS:Spec:=fun xs hp=>match xs,hp with
 | [.ref 0 0 0,.int .i64 m],[.cells t [(1,.own 1 v),(1,.int .i64 n)],.row 5 1 rv ys]=>some ⟨.tup [],dbQ t (dW n ys ++ (signB (lenS m.toNat).1 ++ bitsN (lenS m.toNat).2.1 (lenS m.toNat).2.2)),dOk v rv n ys∧n≤8000000000∧3≤m∧m≤258⟩
 | _,_=>none
theorem phD_ok:PhiOk Tryd.prog (phiL [(87,[],dsignS),(84,[],dnumS),(111,[],dcodeS)]):=phi_cons dsign_ok (by kernel_rfl) (phi_cons dnum_ok (by kernel_rfl) (phi_cons dcode_ok (by kernel_rfl) phi_nil))
theorem signB_len (k:Nat):(signB k).length≤9:=by rw [signB_eq,bitsM_length]; exact (fixN_ok k).2
set_option maxRecDepth 8000 in
theorem dlen_ok:FnOk Tryd.prog 85 dlenS:=by
 refine fn_slim2 Tryd.func85 s_dlen phD_ok ?_
 intro xs hp r hs hp'
 unfold dlenS at hs
 split at hs
 ·rename_i m t v n rv ys
  injection hs with hs; subst hs
  obtain ⟨⟨h1,h2,rfl,h3,h4⟩,h5,h6,h7⟩:=hp'
  generalize dW n ys=W at *
  subst h1 h2 h3
  obtain ⟨k,rfl⟩:∃ p:Nat,m=((p+3:Nat):Int):=⟨m.toNat - 3,by omega⟩
  simp only [Int.toNat_natCast]
  have hW:=dOk_W W (by omega)
  refine ⟨len_le (by kernel_rfl),?_⟩
  by_cases k1:k=255
  ·subst k1
   have c1:decide (((255+3:Nat):Int)=258)=true:=rfl
   have q1:lenS (255+3)=(285,0,0):=rfl
   simp only [c_dlen,r_dlen,c1,q1,dsignS,dbQ,dW_pack,bitsN_zero,List.append_nil,Int.toNat_natCast,Int.reduceToNat,go_sem,reduceDiv,reduceMod,↓reduceIte,reduceEqDiff,Nat.reduceBEq,reduceSub,Nat.reduceLT,reduceAdd,reduceLeDiff,reduceCtorEq,Int.reduceEq,Int.reduceNe,Int.reduceLT,Int.reduceLE,Int.reduceToNat]
   exact ⟨hW,by omega⟩
  ·have c1:decide (((k+3:Nat):Int)=258)=false:=decide_eq_false (by omega)
   have e1:((k+3:Nat):Int) - 3=(k:Int):=by omega
   simp only [c_dlen,c1,e1,dbQ,go_sem,reduceDiv,reduceMod,↓reduceIte,reduceEqDiff,Nat.reduceBEq,reduceSub,Nat.reduceLT,reduceAdd,reduceLeDiff,reduceCtorEq,Int.reduceEq,Int.reduceNe,Int.reduceLT,Int.reduceLE,Int.reduceToNat]
   refine ⟨by (first | omega | (simp only [lenOk,bytesOk,inI,IntKind.bits,List.length_append,Bs_len,List.length_cons,List.length_nil,List.length_map,List.length_take,List.length_drop,List.length_replicate]; omega)),?_⟩
   refine loop2P [] [0,4,5] [0,1] (fun i:Nat=>⟨[(0,.ref 0 0 0),(4,.int .i64 (k:Int)),(5,.int .i64 (i:Int))],[.cells t [(1,.own 1 (verW W)),(1,.int .i64 (W.length:Int))],.row 5 1 (verW W) (Bs (packW W))]⟩)
    (fun i=>i≤moreN 8 8 k) (fun i=>8 - i) 0 (by rfl) (Nat.zero_le _) ⟨rfl,by rfl⟩ (fun i hi R hR=>?_)
   obtain ⟨m1,m2,m3⟩:=more_ok 8 (by omega) 8 k (by omega)
   obtain ⟨a1,a2⟩:=more_at (lim:=8) (f:=8) (k:=k) (i:=i) (by omega) rfl (by omega) hi
   have e2:=shr_nat k i
   by_cases h8:8≤k / 2 ^ i
   ·have c2:decide ((8:Int)≤((k / 2 ^ i:Nat):Int))=true:=decide_eq_true (by omega)
    have:=a1 h8
    simp only [b_dlen_0,c2,e2,go_sem,reduceDiv,reduceMod,↓reduceIte,reduceEqDiff,Nat.reduceBEq,reduceSub,Nat.reduceLT,reduceAdd,reduceLeDiff,reduceCtorEq,Int.reduceEq,Int.reduceNe,Int.reduceLT,Int.reduceLE,Int.reduceToNat]
    exact ⟨by omega,by (first | omega | (simp only [lenOk,bytesOk,inI,IntKind.bits,List.length_append,Bs_len,List.length_cons,List.length_nil,List.length_map,List.length_take,List.length_drop,List.length_replicate]; omega)),hR _ (i+1) (by omega) (by omega) rfl⟩
   ·have c2:decide ((8:Int)≤((k / 2 ^ i:Nat):Int))=false:=decide_eq_false (by omega)
    have hM:=a2 (by omega)
    by_cases k8:k<8
    ·have c3:decide ((k:Int)<8)=true:=decide_eq_true (by omega)
     have e3:(257:Int)+(k:Int)=((257+k:Nat):Int):=by omega
     have q1:lenS (k+3)=(257+k,0,0):=by unfold lenS; rw [if_neg (by omega),if_pos (by omega),Nat.add_sub_cancel]
     simp only [b_dlen_0,t_dlen_0,r_dlen,c2,c3,e2,e3,q1,dsignS,dbQ,dW_pack,bitsN_zero,List.append_nil,Int.toNat_natCast,Int.reduceToNat,go_sem,reduceDiv,reduceMod,↓reduceIte,reduceEqDiff,Nat.reduceBEq,reduceSub,Nat.reduceLT,reduceAdd,reduceLeDiff,reduceCtorEq,Int.reduceEq,Int.reduceNe,Int.reduceLT,Int.reduceLE,Int.reduceToNat]
     exact ⟨by omega,by (first | omega | (simp only [lenOk,bytesOk,inI,IntKind.bits,List.length_append,Bs_len,List.length_cons,List.length_nil,List.length_map,List.length_take,List.length_drop,List.length_replicate]; omega)),hW,by omega,by omega,by omega⟩
    ·have c3:decide ((k:Int)<8)=false:=decide_eq_false (by omega)
     have q1:lenS (k+3)=(257+4 * (i+1)+k / 2 ^ i % 4,i,k % 2 ^ i):=by unfold lenS; rw [if_neg (by omega),if_neg (by omega),Nat.add_sub_cancel,← hM]
     have e4:=and3 (k / 2 ^ i) (Nat.lt_of_le_of_lt (Nat.div_le_self _ _) (by omega))
     have e5:=andM k i (by omega) (by omega)
     have e6:(257:Int)+4 * ((i:Int)+1)+((k / 2 ^ i % 4:Nat):Int)=((257+4 * (i+1)+k / 2 ^ i % 4:Nat):Int):=by omega
     simp only [b_dlen_0,t_dlen_0,r_dlen,c2,c3,e2,e4,e5,e6,q1,dsignS,dnumS,dbQ,dW_pack,← List.append_assoc,Int.one_mul,Int.toNat_natCast,Int.reduceToNat,go_sem,reduceDiv,reduceMod,↓reduceIte,reduceEqDiff,Nat.reduceBEq,reduceSub,Nat.reduceLT,reduceAdd,reduceLeDiff,reduceCtorEq,Int.reduceEq,Int.reduceNe,Int.reduceLT,Int.reduceLE,Int.reduceToNat]
     have h4' : 4≤k / 2 ^ i:=by have:=m3 (by omega); rw [← hM] at this; omega
     have h5' := Nat.div_mul_le_self k (2 ^ i)
     have h6' := Nat.mul_le_mul_right (2 ^ i) h4'
     have h7' : i≤5:=by
      rcases Nat.lt_or_ge i 6 with h | h
      ·omega
      ·have:(2:Nat) ^ 6≤2 ^ i:=Nat.pow_le_pow_right (by omega) h
       omega
     have h2i:(2:Nat) ^ i≤2 ^ 5:=Nat.pow_le_pow_right (by omega) h7'
     have hz:(2:Int) ^ i=((2 ^ i:Nat):Int):=by push_cast; rfl
     have hmod:=Nat.mod_lt k (Nat.two_pow_pos i)
     have hp2:=Nat.two_pow_pos i
     have hsl:=signB_len (257+4 * (i+1)+k / 2 ^ i % 4)
     have hWl:(W ++ signB (257+4 * (i+1)+k / 2 ^ i % 4)).length≤W.length+9:=by rw [List.length_append]; omega
     have hd:=dOk_W (W ++ signB (257+4 * (i+1)+k / 2 ^ i % 4)) (by omega)
     have hi1:inI ((2:Int) ^ i):=by rw [hz]; generalize 2 ^ i=z at *; (first | omega | (simp only [lenOk,bytesOk,inI,IntKind.bits,List.length_append,Bs_len,List.length_cons,List.length_nil,List.length_map,List.length_take,List.length_drop,List.length_replicate]; omega))
     have hi2:inI ((2:Int) ^ i - 1):=by rw [hz]; generalize 2 ^ i=z at *; (first | omega | (simp only [lenOk,bytesOk,inI,IntKind.bits,List.length_append,Bs_len,List.length_cons,List.length_nil,List.length_map,List.length_take,List.length_drop,List.length_replicate]; omega))
     exact ⟨by omega,by (first | omega | (simp only [lenOk,bytesOk,inI,IntKind.bits,List.length_append,Bs_len,List.length_cons,List.length_nil,List.length_map,List.length_take,List.length_drop,List.length_replicate]; omega)),by (first | omega | (simp only [lenOk,bytesOk,inI,IntKind.bits,List.length_append,Bs_len,List.length_cons,List.length_nil,List.length_map,List.length_take,List.length_drop,List.length_replicate]; omega)),by (first | omega | (simp only [lenOk,bytesOk,inI,IntKind.bits,List.length_append,Bs_len,List.length_cons,List.length_nil,List.length_map,List.length_take,List.length_drop,List.length_replicate]; omega)),by omega,by (first | omega | (simp only [lenOk,bytesOk,inI,IntKind.bits,List.length_append,Bs_len,List.length_cons,List.length_nil,List.length_map,List.length_take,List.length_drop,List.length_replicate]; omega)),⟨hW,by omega,by omega,by omega⟩,⟨by omega,hi1⟩,hi2,hd,by omega,by omega,by omega,by omega,by omega⟩
 ·cases hs
end Go.Proofs.YtakolikdebfkeaaDoor
