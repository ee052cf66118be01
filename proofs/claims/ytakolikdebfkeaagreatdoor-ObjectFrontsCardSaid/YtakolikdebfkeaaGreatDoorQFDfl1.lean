import Derived.Test.YtakolikdebfkeaaGreatDoorQFR3g
import Derived.Test.YtakolikdebfkeaaGreatDoorQInfLaw5
import Derived.Test.YtakolikdebfkeaaGreatDoorQAMS
import Derived.Test.YtakolikdebfkeaaGreatDoorQFR3d
import Derived.Test.YtakolikdebfkeaaGreatDoorQR59Code
import Derived.Shelf.Strings.Builder1
import Derived.Shelf.Strconv.Itoa0
import Derived.Shelf.LaysM
import Derived.Shelf.Strconv.Itoa3
import Derived.Shelf.LaysC
import Derived.Shelf.Strconv.AtoiAll
import Derived.Shelf.Bytes.SlIndexAt
import Derived.Test.YtakolikdebfkeaaGreatDoorProg
import Derived.Lib.IndexMore
import Derived.Lib.IndexAny
import Derived.Lib.Strings
import Derived.Lib.IndexBytes
import Derived.Lib.CountLaws
import Derived.Lib.SplitLaws
import Derived.Lib.Replace
open Nat (reduceDiv reduceMod reduceSub reduceAdd reduceLeDiff reduceEqDiff)
set_option linter.all false
namespace Go.Proofs.YtakolikdebfkeaaGreatDoor
open Go.RowKit
def storV:Nat→List UInt8→Nat
 | 0,_=>0
 | k+1,b=>if b.length≤65535 then 2 else 2+storV k (b.drop 65535)
def byOk (k:Nat) (ps:List AV):Prop:=ps=Bs (unB ps)∧k=1∧(unB ps).length≤100000000
def dstor0S:Spec:=fun xs hp=>match xs,hp with
 | [.sl k ps],[]=>some ⟨.own 0 (storV ((unB ps).length+1) (unB ps)),[.row 5 1 (storV ((unB ps).length+1) (unB ps)) (Bs (storW (unB ps)))],byOk k ps⟩
 | _,_=>none
theorem xor_u8:∀ m:Nat,m<256→bits BinOp.xor IntKind.u8 (if IntKind.u8.signed=true then -1 else IntKind.u8.max) (m:Int)=((255 - m:Nat):Int):=by decide +kernel
theorem B_nat (m:Nat) (h:m<256):AV.int .u8 (m:Int)=AV.int .u8 ((UInt8.ofNat m).toNat:Int):=by
 rw [show (UInt8.ofNat m).toNat=m by rw [UInt8.toNat_ofNat']; omega]
theorem storH_B (last n:Nat) (hl:last<2) (hn:n≤65535):[AV.int IntKind.u8 (last:Int),AV.int IntKind.u8 (IntKind.u8.wrap (n:Int)),AV.int IntKind.u8 (IntKind.u8.wrap ((n:Int) / 2 ^ 8)),AV.int IntKind.u8 (bits BinOp.xor IntKind.u8 (if IntKind.u8.signed=true then -1 else IntKind.u8.max) (IntKind.u8.wrap (n:Int))),AV.int IntKind.u8 (bits BinOp.xor IntKind.u8 (if IntKind.u8.signed=true then -1 else IntKind.u8.max) (IntKind.u8.wrap ((n:Int) / 2 ^ 8)))]=Bs (storH last n):=by
 have e1:IntKind.u8.wrap (n:Int)=((n % 256:Nat):Int):=by rw [IntKind.wrap_u8']; omega
 have e2:IntKind.u8.wrap ((n:Int) / 2 ^ 8)=((n / 256:Nat):Int):=by rw [IntKind.wrap_u8']; omega
 rw [e1,e2,xor_u8 _ (by omega),xor_u8 _ (by omega),B_nat last (by omega),B_nat (n % 256) (by omega),B_nat (n / 256) (by omega),B_nat (255 - n % 256) (by omega),B_nat (255 - n / 256) (by omega)]
 rfl
theorem storB_le:∀ (k:Nat) (b:List UInt8),(storB k b).length≤b.length+5 * k
 | 0,b=>by simp [storB]
 | k+1,b=>by
  unfold storB
  by_cases h:b.length≤65535
  ·rw [if_pos h,List.length_append,show (storH 1 b.length).length=5 from rfl]; omega
  ·rw [if_neg h,List.length_append,List.length_append,show (storH 0 65535).length=5 from rfl,List.length_take]
   have:=storB_le k (b.drop 65535)
   rw [List.length_drop] at this
   omega
structure DsI where
 f:Nat
 b:List UInt8
 out:List UInt8
 v:Nat
set_option maxRecDepth 8000 in
theorem dstor0_ok:FnOk Tryz.prog 101 dstor0S:=by
 refine fn_slim2 Tryz.func101 s_dstor (Φ:=phiL []) phi_nil ?_
 intro xs hp r hs hp'
 unfold dstor0S at hs
 split at hs
 ·rename_i k ps
  injection hs with hs; subst hs
  obtain ⟨h1,h2,h3⟩:=hp'
  generalize unB ps=b0 at *
  subst h1 h2
  refine ⟨len_le (by kernel_rfl),?_⟩
  simp only [c_dstor,go_sem,reduceDiv,reduceMod]
  refine loop2P [(3,5,1)] [0,3] [0] (fun i:DsI=>⟨[(0,.sl 1 (Bs i.b)),(3,.own 0 i.v)],[.row 5 1 i.v (Bs i.out)]⟩) (fun i=>i.b.length<i.f∧i.b.length≤b0.length∧i.out ++ storB i.f i.b=storW b0∧i.v+storV i.f i.b=storV (b0.length+1) b0) (fun i=>i.f) ⟨b0.length+1,b0,[],0⟩ (by rfl) ⟨by simp only; omega,Nat.le_refl _,rfl,by simp only; omega⟩ ⟨rfl,by rfl⟩ (fun i hi R hR=>?_)
  obtain ⟨f,b,out,v⟩:=i
  obtain ⟨i1,i2,i3,i4⟩:=hi
  simp only at i1 i2 i3 i4
  cases f with
  | zero=>omega
  | succ f =>
   rw [show storB (f+1) b=(if b.length≤65535 then storH 1 b.length ++ b else storH 0 65535 ++ (b.take 65535 ++ storB f (b.drop 65535))) from rfl] at i3
   rw [show storV (f+1) b=(if b.length≤65535 then 2 else 2+storV f (b.drop 65535)) from rfl] at i4
   have hW:(storW b0).length≤600000005:=by
    have:=storB_le (b0.length+1) b0
    unfold storW; omega
   by_cases hl:b.length≤65535
   ·rw [if_pos hl] at i3 i4
    have emin:min (b.length:Int) 65535=(b.length:Int):=by omega
    have c1:decide ((b.length:Int)=(b.length:Int))=true:=decide_eq_true rfl
    have hh:=storH_B 1 b.length (by omega) hl
    rw [show ((1:Nat):Int)=1 from rfl] at hh
    have ho:=congrArg List.length i3
    rw [List.length_append,List.length_append,show (storH 1 b.length).length=5 from rfl] at ho
    have htk:(Bs b).take b.length=Bs b:=List.take_of_length_le (by rw [Bs_length]; omega)
    simp only [b_dstor_0,r_dstor,emin,hh,htk,Bs_len,Int.toNat_natCast,Int.cast_ofNat_Int,← Bs_append,go_sem,reduceDiv,reduceMod,↓reduceIte,reduceAdd,Int.reduceLE,Int.reduceToNat]
    have e4:out ++ storH 1 b.length ++ b=storW b0:=by rw [← i3,List.append_assoc]
    have e5:v+1+1=storV (b0.length+1) b0:=by omega
    have hs0:(storH 1 b.length).length=5:=rfl
    have hs1:(out ++ storH 1 b.length).length=out.length+5:=by rw [List.length_append]; rfl
    have hs2:(out ++ storH 1 b.length ++ b).length=out.length+5+b.length:=by rw [List.length_append,hs1]
    rw [e5]
    refine ⟨by simp only [lenOk,hs0]; omega,⟨by simp only [lenOk,hs1]; omega,by simp only [bytesOk,hs1]; omega⟩,by omega,⟨by simp only [lenOk,hs2]; omega,by simp only [bytesOk,hs2]; omega⟩,by omega,rfl,by rw [e4]⟩
   ·rw [if_neg hl] at i3 i4
    have emin:min (b.length:Int) 65535=65535:=by omega
    have c1:decide ((65535:Int)=(b.length:Int))=false:=decide_eq_false (by omega)
    have hh:=storH_B 0 65535 (by omega) (by omega)
    rw [show ((0:Nat):Int)=0 from rfl,show ((65535:Nat):Int)=65535 from rfl] at hh
    have ho:=congrArg List.length i3
    rw [List.length_append,List.length_append,List.length_append,show (storH 0 65535).length=5 from rfl,List.length_take] at ho
    have htk:(Bs b).take 65535=Bs (b.take 65535):=by simp [Bs]
    have hdp:(Bs b).drop 65535=Bs (b.drop 65535):=by simp [Bs]
    simp only [b_dstor_0,r_dstor,emin,c1,hh,htk,Bs_len,Int.toNat_natCast,Int.reduceToNat,Int.cast_ofNat_Int,← Bs_append,go_sem,reduceDiv,reduceMod,↓reduceIte,reduceAdd,Int.reduceEq,Int.reduceLE,Int.reduceToNat]
    have hs0:(storH 0 65535).length=5:=rfl
    have hs1:(out ++ storH 0 65535).length=out.length+5:=by rw [List.length_append]; rfl
    have hs2:(out ++ storH 0 65535 ++ b.take 65535).length=out.length+5+65535:=by rw [List.length_append,hs1,List.length_take]; omega
    have htl:(Bs b).take b.length=Bs b:=List.take_of_length_le (by rw [Bs_length]; omega)
    rw [htl,hdp]
    refine ⟨by simp only [lenOk,hs0]; omega,⟨by simp only [lenOk,hs1]; omega,by simp only [bytesOk,hs1]; omega⟩,by omega,⟨by simp only [lenOk,hs2]; omega,by simp only [bytesOk,hs2]; omega⟩,by omega,hR _ ⟨f,b.drop 65535,out ++ storH 0 65535 ++ b.take 65535,v+1+1⟩ ⟨by simp only [List.length_drop]; omega,by simp only [List.length_drop]; omega,by simp only; rw [← i3]; simp only [List.append_assoc],by simp only; omega⟩ (by simp only; omega) rfl⟩
 ·cases hs
structure AdI where
 i:Nat
 x:Nat
 y:Nat
def adlmS:Spec:=fun xs hp=>match xs,hp with
 | [.int .u32 1,.sl k ps],[]=>some ⟨.int .u32 (adlN (unB ps):Int),[],ps=Bs (unB ps)∧(k=1∨ps=[])∧(unB ps).length≤1000000000⟩
 | _,_=>none
theorem u32_wrap (n:Nat) (h:n<4294967296):IntKind.u32.wrap (n:Int)=(n:Int):=by
 simp only [IntKind.wrap,IntKind.signed,IntKind.bits]; simp; omega
theorem sl_k1 {k:Nat} {b:List UInt8} (h:k=1∨Bs b=[]) (h0:0<b.length):k=1:=by
 rcases h with h | h
 ·exact h
 ·have h' : (Bs b).length=0:=by rw [h]; rfl
  rw [Bs_length] at h'; omega
theorem u32_or (a b:Nat) (ha:a<4294967296) (hb:b<4294967296):bits .or .u32 (a:Int) (b:Int)=((a ||| b:Nat):Int):=by
 have hx:a ||| b<2 ^ 32:=Nat.or_lt_two_pow (by omega) (by omega)
 have h1:(BitVec.ofInt 32 (a:Int)).toNat=a:=by
  rw [BitVec.ofInt_natCast,BitVec.toNat_ofNat]; exact Nat.mod_eq_of_lt (by omega)
 have h2:(BitVec.ofInt 32 (b:Int)).toNat=b:=by
  rw [BitVec.ofInt_natCast,BitVec.toNat_ofNat]; exact Nat.mod_eq_of_lt (by omega)
 show IntKind.u32.wrap ((BitVec.ofInt 32 (a:Int) ||| BitVec.ofInt 32 (b:Int)).toNat:Int)=_
 rw [BitVec.toNat_or,h1,h2]
 exact u32_wrap _ hx
theorem adl_or (x y:Nat) (hx:x<65536) (hy:y<65536):bits .or .u32 (IntKind.u32.wrap ((y:Int) * 2 ^ 16)) (x:Int)=((y * 65536+x:Nat):Int):=by
 rw [show (y:Int) * 2 ^ 16=((y * 2 ^ 16:Nat):Int) by omega,u32_wrap _ (by omega),u32_or _ _ (by omega) (by omega),nat_join 16 (y * 2 ^ 16) x (by simp) hx]
set_option maxRecDepth 8000 in
theorem adlm_ok:FnOk Tryz.prog 99 adlmS:=by
 refine fn_slim2 Tryz.func99 s_adlm (Φ:=phiL []) phi_nil ?_
 intro xs hp r hs hp'
 unfold adlmS at hs
 split at hs
 ·rename_i k ps
  injection hs with hs; subst hs
  obtain ⟨h1,h2,h3⟩:=hp'
  generalize unB ps=b at *
  subst h1
  refine ⟨len_le (by kernel_rfl),?_⟩
  simp only [c_adlm,Bs_len,go_sem,reduceDiv,reduceMod,↓reduceIte,reduceAdd,Int.reduceLE,Int.reduceToNat]
  refine loop2P [] [5,6,13,14,15] [] (fun i:AdI=>⟨[(5,.int .u32 (i.x:Int)),(6,.int .u32 (i.y:Int)),(13,.sl k (Bs b)),(14,.int .i64 (b.length:Int)),(15,.int .i64 (i.i:Int))],[]⟩) (fun i=>i.i≤b.length∧adlX (b.drop i.i) i.x i.y=adlX b 1 0∧i.x<65521∧i.y<65521) (fun i=>b.length - i.i) ⟨0,1,0⟩ (by rfl) ⟨Nat.zero_le _,rfl,by decide,by decide⟩ ⟨rfl,by rfl⟩ (fun i hi R hR=>?_)
  obtain ⟨i,x,y⟩:=i
  obtain ⟨i1,i2,i3,i4⟩:=hi
  simp only at i1 i2 i3 i4
  by_cases hl:i<b.length
  ·have c1:decide ((i:Int)<(b.length:Int))=true:=decide_eq_true (by omega)
   obtain rfl:k=1:=sl_k1 h2 (by omega)
   have hc:(b.getD i 0).toNat<256:=(b.getD i 0).toNat_lt
   have w1:IntKind.u32.wrap ((b.getD i 0).toNat:Int)=((b.getD i 0).toNat:Int):=u32_wrap _ (by omega)
   have w2:IntKind.u32.wrap ((x:Int)+((b.getD i 0).toNat:Int))=((x+(b.getD i 0).toNat:Nat):Int):=u32_wrap (x+(b.getD i 0).toNat) (by omega)
   have w3:((x+(b.getD i 0).toNat:Nat):Int).tmod 65521=(((x+(b.getD i 0).toNat) % 65521:Nat):Int):=rfl
   have w4:IntKind.u32.wrap ((y:Int)+(((x+(b.getD i 0).toNat) % 65521:Nat):Int))=((y+(x+(b.getD i 0).toNat) % 65521:Nat):Int):=u32_wrap (y+(x+(b.getD i 0).toNat) % 65521) (by omega)
   have w5:((y+(x+(b.getD i 0).toNat) % 65521:Nat):Int).tmod 65521=(((y+(x+(b.getD i 0).toNat) % 65521) % 65521:Nat):Int):=rfl
   simp only [b_adlm_0,c1,w1,w2,w3,w4,w5,Int.toNat_natCast,Bs_len,go_sem,reduceDiv,reduceMod,↓reduceIte,Int.reduceNe]
   have hd:adlX (b.drop (i+1)) ((x+(b.getD i 0).toNat) % 65521) ((y+(x+(b.getD i 0).toNat) % 65521) % 65521)=adlX b 1 0:=by
    rw [← i2,List.drop_eq_getElem_cons hl,show b.getD i 0=b[i] by simp [List.getD_eq_getElem?_getD,hl]]; rfl
   exact ⟨⟨by omega,by omega⟩,by (first | omega | (simp only [inI]; omega)),hR _ ⟨i+1,_,_⟩ ⟨by simp only; omega,hd,Nat.mod_lt _ (by omega),Nat.mod_lt _ (by omega)⟩ (by simp only; omega) rfl⟩
  ·have c1:decide ((i:Int)<(b.length:Int))=false:=decide_eq_false (by omega)
   obtain rfl:i=b.length:=by omega
   simp only [b_adlm_0,t_adlm_0,r_adlm,c1,go_sem,reduceDiv,reduceMod,↓reduceIte,Int.reduceLE,Int.reduceToNat]
   rw [List.drop_length] at i2
   have e:adlN b=y * 65536+x:=by unfold adlN; rw [← i2]; rfl
   rw [adl_or x y (by omega) (by omega),e]
 ·cases hs
def adlerS:Spec:=fun xs hp=>match xs,hp with
 | [.sl k ps],[]=>some ⟨.int .u32 (adlN (unB ps):Int),[],ps=Bs (unB ps)∧(k=1∨ps=[])∧(unB ps).length≤1000000000⟩
 | _,_=>none
theorem adler_ok:FnOk Tryz.prog 57 adlerS:=by
 refine fn_slim2 Tryz.func57 s_adler (Φ:=phiL [(99,[],adlmS)]) (phi_cons adlm_ok (by kernel_rfl) phi_nil) ?_
 intro xs hp r hs hp'
 unfold adlerS at hs
 split at hs
 ·rename_i k ps
  injection hs with hs; subst hs
  refine ⟨len_le (by kernel_rfl),?_⟩
  simp only [c_adler,r_adler,adlmS,go_sem,reduceDiv,reduceMod,↓reduceIte]
  exact hp'
 ·cases hs
def zfourS:Spec:=fun xs hp=>match xs,hp with
 | [.int .u32 n],[]=>some ⟨.blob ((tail4 n.toNat).map U),[],0≤n∧n<4294967296⟩
 | _,_=>none
set_option maxRecDepth 8000 in
theorem zfour_ok:FnOk Tryz.prog 56 zfourS:=by
 refine fn_slim2 Tryz.func56 s_zfour (Φ:=phiL []) phi_nil ?_
 intro xs hp r hs hp'
 unfold zfourS at hs
 split at hs
 ·rename_i n
  injection hs with hs; subst hs
  obtain ⟨h1,h2⟩:=hp'
  obtain ⟨n,rfl⟩:=Int.eq_ofNat_of_zero_le h1
  refine ⟨len_le (by kernel_rfl),?_⟩
  simp only [c_zfour,r_zfour,go_sem,reduceDiv,reduceMod,↓reduceIte,reduceSub,Nat.reduceLT,reduceAdd,reduceCtorEq,Int.reduceLE,Int.reduceToNat]
  have w (z:Nat):IntKind.u8.wrap (z:Int)=((z % 256:Nat):Int):=by
   simp only [IntKind.wrap,IntKind.signed,IntKind.bits]; simp
  have e1:(n:Int) / 2 ^ 24=((n / 16777216:Nat):Int):=by omega
  have e2:(n:Int) / 2 ^ 16=((n / 65536:Nat):Int):=by omega
  have e3:(n:Int) / 2 ^ 8=((n / 256:Nat):Int):=by omega
  rw [e1,e2,e3,w,w,w,w]
  simp [tail4,U]
 ·cases hs
def zopenS (td:Td):Spec:=fun xs hp=>match xs,hp with
 | [.sl k ps,.int .i64 m],[]=>match zopenE td (unB ps) m.toNat with
  | .ok (o,n)=>some ⟨.tup [.sl 1 (Bs o),.int .i64 (n:Int),.int .i64 0],[],inpOk k ps∧0≤m∧m≤100000000⟩
  | .error e=>some ⟨.tup [.con (.slice none 0 0),.int .i64 0,.int .i64 (e:Int)],[],inpOk k ps∧0≤m∧m≤100000000∧e≠9∧e≠0⟩
 | _,_=>none
theorem and15:∀ k:Nat,k<256→bits BinOp.and IntKind.u8 (k:Int) 15=((k % 16:Nat):Int):=by decide +kernel
theorem and32:∀ k:Nat,k<256→bits BinOp.and IntKind.u8 (k:Int) 32=((k / 32 % 2 * 32:Nat):Int):=by decide +kernel
theorem or_b (x y:Nat) (hx:x<256) (hy:y<256):bits BinOp.or IntKind.i64 ((x:Int) * 2 ^ 8) (y:Int)=((x * 256+y:Nat):Int):=by
 rw [show (x:Int) * 2 ^ 8=((x * 256:Nat):Int) by omega,i64_or _ _ (by omega) (by omega),nat_join 8 (x * 256) y (by omega) (by omega)]
set_option maxRecDepth 8000 in
theorem zopen_ok {td:Td} (hTd:TdOk td):FnOk Tryz.prog 44 (zopenS td):=by
 refine fn_slim2 Tryz.func44 s_zopen (Φ:=(phiL [(90,[],irawF td),(57,[],adlerS),(56,[],zfourS)])) (phi_cons (irawF_ok hTd) (by kernel_rfl) (phi_cons adler_ok (by kernel_rfl) (phi_cons zfour_ok (by kernel_rfl) phi_nil))) ?_
 intro xs hp r hs hp'
 unfold zopenS at hs
 split at hs
 ·rename_i k ps m
  have hP:inpOk k ps∧0≤m∧m≤100000000∧∀ e,zopenE td (unB ps) m.toNat=.error e→e≠9∧e≠0:=by
   split at hs
   ·rename_i o n hz
    injection hs with hs; subst hs
    exact ⟨hp'.1,hp'.2.1,hp'.2.2,fun e h=>by rw [hz] at h; cases h⟩
   ·rename_i e hz
    injection hs with hs; subst hs
    exact ⟨hp'.1,hp'.2.1,hp'.2.2.1,fun e' h=>by rw [hz] at h; injection h with h; subst h; exact hp'.2.2.2⟩
  obtain ⟨h1,h2,h3,h9⟩:=hP
  have hL:=h1.2.1
  have hk:=h1.2.2
  have hbs:=h1.1
  generalize unB ps=b at *
  subst hbs
  obtain ⟨m,rfl⟩:=Int.eq_ofNat_of_zero_le h2
  rw [Int.toNat_natCast] at hs h9
  refine ⟨len_le (by kernel_rfl),?_⟩
  by_cases hl2:b.length<2
  ·have c1:decide ((b.length:Int)<2)=true:=decide_eq_true (by omega)
   have hz:zopenE td b m=.error 3:=if_pos hl2
   rw [hz] at hs
   injection hs with hs; subst hs
   simp only [c_zopen,r_zopen,c1,Bs_len,go_sem,reduceDiv,reduceMod,↓reduceIte,reduceAdd]
  ·have c1:decide ((b.length:Int)<2)=false:=decide_eq_false (by omega)
   obtain rfl:=sl_k1 hk (by omega)
   have hx:(b.getD 0 0).toNat<256:=(b.getD 0 0).toNat_lt
   have hy:(b.getD 1 0).toNat<256:=(b.getD 1 0).toNat_lt
   have a1:=and15 _ hx
   have a3:=and32 _ hy
   have a5:=or_b (b.getD 0 0).toNat (b.getD 1 0).toNat (by omega) hy
   have hBad:headBad (b.getD 0 0).toNat (b.getD 1 0).toNat=true→zopenE td b m=.error 4:=fun h=>by unfold zopenE; rw [if_neg hl2,if_pos h]
   generalize hX:(b.getD 0 0).toNat=x at *
   generalize hY:(b.getD 1 0).toNat=y at *
   by_cases x1:x % 16=8
   ·have c2:decide (((x % 16:Nat):Int)=8)=true:=decide_eq_true (by omega)
    by_cases x2:7<x / 16
    ·have c3:decide (7<(x:Int) / 2 ^ 4)=true:=decide_eq_true (by omega)
     rw [hBad (by simp [headBad,x2])] at hs
     injection hs with hs; subst hs
     simp only [c_zopen,r_zopen,c1,a1,c2,c3,hX,Bs_len,Int.reduceToNat,go_sem,reduceDiv,reduceMod,↓reduceIte,reduceAdd,reduceCtorEq,Int.reduceLE,Int.reduceToNat]
     (repeat' apply And.intro) <;> first | exact h1 | omega | (first | omega | (simp only [lenOk,bytesOk,inI,IntKind.bits,List.length_append,Bs_len,List.length_cons,List.length_nil,List.length_map,List.length_take,List.length_drop,List.length_replicate]; omega)) | trivial
    ·have c3:decide (7<(x:Int) / 2 ^ 4)=false:=decide_eq_false (by omega)
     by_cases x3:y / 32 % 2=1
     ·have c4:decide (((y / 32 % 2 * 32:Nat):Int)=0)=false:=decide_eq_false (by omega)
      rw [hBad (by simp [headBad,x3])] at hs
      injection hs with hs; subst hs
      simp only [c_zopen,r_zopen,c1,a1,a3,c2,c3,c4,hX,hY,Bs_len,Int.reduceToNat,go_sem,reduceDiv,reduceMod,↓reduceIte,reduceAdd,reduceCtorEq,Int.reduceLE,Int.reduceToNat]
      (repeat' apply And.intro) <;> first | exact h1 | omega | (first | omega | (simp only [lenOk,bytesOk,inI,IntKind.bits,List.length_append,Bs_len,List.length_cons,List.length_nil,List.length_map,List.length_take,List.length_drop,List.length_replicate]; omega)) | trivial
     ·have c4:decide (((y / 32 % 2 * 32:Nat):Int)=0)=true:=decide_eq_true (by omega)
      by_cases x4:(x * 256+y) % 31=0
      ·have c5:decide (((x * 256+y:Nat):Int).tmod 31=0)=true:=by rw [show ((x * 256+y:Nat):Int).tmod 31=(((x * 256+y) % 31:Nat):Int) from rfl,x4]; rfl
       have hG:zopenE td b m=(match rawE td (b.drop 2) m with
        | .error e=>.error e
        | .ok (x,n)=>if (b.drop (2+n)).length<4 then .error 3 else if tail4 (adlN x)=(b.drop (2+n)).take 4 then .ok (x,n+6) else .error 5):=by
        have hh:¬ headBad x y=true:=by simp [headBad,x1,x2,x3,x4]
        unfold zopenE
        rw [if_neg hl2,hX,hY,if_neg hh]
        rfl
       have e2:List.drop 2 (List.take b.length (Bs b))=Bs (b.drop 2):=by rw [List.take_of_length_le (by rw [Bs_length]; omega)]; simp [Bs]
       have hI:inpOk 1 (Bs (b.drop 2)):=⟨by rw [unB_Bs],by rw [unB_Bs,List.length_drop]; omega,.inl rfl⟩
       cases hR:rawE td (b.drop 2) m with
       | error e =>
        rw [hR] at hG
        simp only at hG
        rw [hG] at hs
        injection hs with hs; subst hs
        obtain ⟨he,e0⟩:=h9 e hG
        have c6:decide ((e:Int)=0)=false:=decide_eq_false (by omega)
        simp only [c_zopen,r_zopen,c1,a1,a3,a5,c2,c3,c4,c5,c6,e2,hX,hY,irawF,hR,unB_Bs,Bs_len,Int.toNat_natCast,Int.reduceToNat,go_sem,reduceDiv,reduceMod,↓reduceIte,Nat.reduceLT,reduceAdd,reduceCtorEq,Int.reduceNe,Int.reduceLE,Int.reduceToNat]
        exact ⟨by omega,by omega,by omega,by omega,by (first | omega | (simp only [inI]; omega)),by (first | omega | (simp only [inI]; omega)),by omega,by (first | omega | (simp only [inI]; omega)),⟨by omega,by omega⟩,hI,by omega,by omega,he⟩
       | ok w =>
        obtain ⟨o,n⟩:=w
        rw [hR] at hG
        simp only at hG
        obtain ⟨n1,n2⟩:=rawE_pos hTd hR
        rw [List.length_drop] at n1
        have e3:((2:Int)+(n:Int)).toNat=2+n:=by omega
        have e4:List.drop (2+n) (List.take b.length (Bs b))=Bs (b.drop (2+n)):=by rw [List.take_of_length_le (by rw [Bs_length]; omega)]; simp [Bs]
        have e5:List.take 4 (Bs (b.drop (2+n)))=Bs ((b.drop (2+n)).take 4):=by simp [Bs]
        have hA:=adlN_lt o
        by_cases hc:(b.drop (2+n)).length<4
        ·have c6:decide (((b.drop (2+n)).length:Int)<4)=true:=decide_eq_true (by omega)
         rw [if_pos hc] at hG
         rw [hG] at hs
         injection hs with hs; subst hs
         simp only [c_zopen,r_zopen,c1,a1,a3,a5,c2,c3,c4,c5,e2,e3,e4,c6,hX,hY,irawF,hR,unB_Bs,Bs_len,Int.toNat_natCast,Int.reduceToNat,go_sem,reduceDiv,reduceMod,↓reduceIte,Nat.reduceLT,reduceAdd,reduceCtorEq,Int.reduceNe,Int.reduceLE,Int.reduceToNat]
         exact ⟨by omega,by omega,by omega,by omega,by (first | omega | (simp only [inI]; omega)),by (first | omega | (simp only [inI]; omega)),by omega,by (first | omega | (simp only [inI]; omega)),⟨by omega,by omega⟩,⟨hI,by omega,by omega⟩,by (first | omega | (simp only [inI]; omega)),by omega,by omega,by omega⟩
        ·have c6:decide (((b.drop (2+n)).length:Int)<4)=false:=decide_eq_false (by omega)
         have hl4:((b.drop (2+n)).take 4).length=4:=by rw [List.length_take]; omega
         rw [if_neg hc] at hG
         simp only [c_zopen,r_zopen,c1,a1,a3,a5,c2,c3,c4,c5,e2,e3,e4,e5,c6,hX,hY,irawF,adlerS,zfourS,hR,unB_Bs,Bs_len,Int.toNat_natCast,Int.reduceToNat,go_sem,reduceDiv,reduceMod,↓reduceIte,reduceEqDiff,Nat.reduceLT,reduceAdd,reduceCtorEq,Int.reduceNe,Int.reduceLE,Int.reduceToNat]
         simp only [unV_U]
         have h40:(tail4 (adlN o)).length=4:=rfl
         refine ⟨by omega,by omega,by omega,by omega,by (first | omega | (simp only [inI]; omega)),by (first | omega | (simp only [inI]; omega)),by omega,by (first | omega | (simp only [inI]; omega)),⟨by omega,by omega⟩,⟨hI,by omega,by omega⟩,by (first | omega | (simp only [inI]; omega)),⟨by omega,by omega,by omega⟩,⟨.inl trivial,by omega⟩,⟨by omega,by omega⟩,by omega,⟨trivial,trivial,h40,hl4⟩,fun h=>?_,fun h=>?_⟩
         ·have hne:¬ tail4 (adlN o)=(b.drop (2+n)).take 4:=by simpa using h
          rw [if_neg hne] at hG
          rw [hG] at hs
          injection hs with hs; subst hs
          exact ⟨rfl,rfl⟩
         ·have heq:tail4 (adlN o)=(b.drop (2+n)).take 4:=by simpa using h
          rw [if_pos heq] at hG
          rw [hG] at hs
          injection hs with hs; subst hs
          exact ⟨by (first | omega | (simp only [inI]; omega)),rfl,rfl⟩
      ·have c5:decide (((x * 256+y:Nat):Int).tmod 31=0)=false:=by rw [show ((x * 256+y:Nat):Int).tmod 31=(((x * 256+y) % 31:Nat):Int) from rfl]; exact decide_eq_false (by omega)
       rw [hBad (by simp [headBad,x4])] at hs
       injection hs with hs; subst hs
       simp only [c_zopen,r_zopen,c1,a1,a3,a5,c2,c3,c4,c5,hX,hY,Bs_len,Int.reduceToNat,go_sem,reduceDiv,reduceMod,↓reduceIte,reduceAdd,reduceCtorEq,Int.reduceNe,Int.reduceLE,Int.reduceToNat]
       (repeat' apply And.intro) <;> first | exact h1 | omega | (first | omega | (simp only [lenOk,bytesOk,inI,IntKind.bits,List.length_append,Bs_len,List.length_cons,List.length_nil,List.length_map,List.length_take,List.length_drop,List.length_replicate]; omega)) | trivial
   ·have c2:decide (((x % 16:Nat):Int)=8)=false:=decide_eq_false (by omega)
    rw [hBad (by simp [headBad,x1])] at hs
    injection hs with hs; subst hs
    simp only [c_zopen,r_zopen,c1,a1,c2,hX,Bs_len,Int.reduceToNat,go_sem,reduceDiv,reduceMod,↓reduceIte,reduceAdd,reduceCtorEq,Int.reduceLE,Int.reduceToNat]
    (repeat' apply And.intro) <;> first | exact h1 | omega | (first | omega | (simp only [lenOk,bytesOk,inI,IntKind.bits,List.length_append,Bs_len,List.length_cons,List.length_nil,List.length_map,List.length_take,List.length_drop,List.length_replicate]; omega)) | trivial
 ·cases hs
theorem zopen_pos {td:Td} (hTd:TdOk td) {b o:List UInt8} {most n:Nat} (h:zopenE td b most=.ok (o,n)):n≤b.length∧o.length≤most:=by
 unfold zopenE at h
 split at h
 ·cases h
 ·rename_i hl
  split at h
  ·cases h
  ·split at h
   ·cases h
   ·rename_i x k hr
    obtain ⟨r1,r2⟩:=rawE_pos hTd hr
    rw [List.length_drop] at r1
    split at h
    ·cases h
    ·rename_i h4
     rw [List.length_drop] at h4
     split at h
     ·injection h with h; injection h with e1 e2
      subst e1 e2
      exact ⟨by omega,r2⟩
     ·cases h
def r1adlS:Spec:=fun xs hp=>match xs,hp with
 | [.int .u32 1,.sl k ps],[]=>some ⟨.int .u32 (adlN (unB ps):Int),[],ps=Bs (unB ps)∧(k=1∨ps=[])∧(unB ps).length≤1000000000⟩
 | _,_=>none
set_option maxRecDepth 8000 in
theorem r1adl_ok:FnOk Tryz.prog 137 r1adlS:=by
 refine fn_slim2 Tryz.func137 s_r1adl (Φ:=phiL []) phi_nil ?_
 intro xs hp r hs hp'
 unfold r1adlS at hs
 split at hs
 ·rename_i k ps
  injection hs with hs; subst hs
  obtain ⟨h1,h2,h3⟩:=hp'
  generalize unB ps=b at *
  subst h1
  refine ⟨len_le (by kernel_rfl),?_⟩
  simp only [c_r1adl,go_sem,reduceDiv,reduceMod,↓reduceIte,reduceAdd,Int.reduceNe]
  refine ⟨⟨by decide,by decide⟩,⟨by decide,by decide⟩,?_⟩
  refine loop2P [] [1,5,6,7] [] (fun i:AdI=>⟨[(1,.sl k (Bs b)),(5,.int .i64 (i.x:Int)),(6,.int .i64 (i.y:Int)),(7,.int .i64 (i.i:Int))],[]⟩) (fun i=>i.i≤b.length∧adlX (b.drop i.i) i.x i.y=adlX b 1 0∧i.x<65521∧i.y<65521) (fun i=>b.length - i.i) ⟨0,1,0⟩ (by rfl) ⟨Nat.zero_le _,rfl,by decide,by decide⟩ ⟨rfl,by rfl⟩ (fun i hi R hR=>?_)
  obtain ⟨i,x,y⟩:=i
  obtain ⟨i1,i2,i3,i4⟩:=hi
  simp only at i1 i2 i3 i4
  by_cases hl:i<b.length
  ·have c1:decide ((i:Int)<(b.length:Int))=true:=decide_eq_true (by omega)
   obtain rfl:k=1:=sl_k1 h2 (by omega)
   have hc:(b.getD i 0).toNat<256:=(b.getD i 0).toNat_lt
   have w3:((x:Int)+((b.getD i 0).toNat:Int)).tmod 65521=(((x+(b.getD i 0).toNat) % 65521:Nat):Int):=rfl
   have w5:((((x+(b.getD i 0).toNat) % 65521:Nat):Int)+(y:Int)).tmod 65521=(((y+(x+(b.getD i 0).toNat) % 65521) % 65521:Nat):Int):=by rw [Nat.add_comm y]; rfl
   simp only [b_r1adl_0,c1,w3,w5,Int.toNat_natCast,Bs_len,go_sem,reduceDiv,reduceMod,↓reduceIte,Int.reduceNe]
   have hd:adlX (b.drop (i+1)) ((x+(b.getD i 0).toNat) % 65521) ((y+(x+(b.getD i 0).toNat) % 65521) % 65521)=adlX b 1 0:=by
    rw [← i2,List.drop_eq_getElem_cons hl,show b.getD i 0=b[i] by simp [List.getD_eq_getElem?_getD,hl]]; rfl
   exact ⟨⟨by omega,by omega⟩,by (first | omega | (simp only [inI]; omega)),by (first | omega | (simp only [inI]; omega)),⟨by omega,by omega⟩,by (first | omega | (simp only [inI]; omega)),hR _ ⟨i+1,_,_⟩ ⟨by simp only; omega,hd,Nat.mod_lt _ (by omega),Nat.mod_lt _ (by omega)⟩ (by simp only; omega) rfl⟩
  ·have c1:decide ((i:Int)<(b.length:Int))=false:=decide_eq_false (by omega)
   obtain rfl:i=b.length:=by omega
   rw [List.drop_length] at i2
   have e:adlN b=y * 65536+x:=by unfold adlN; rw [← i2]; rfl
   have e2:IntKind.u32.wrap (65536 * (y:Int)+(x:Int))=((y * 65536+x:Nat):Int):=by
    rw [show 65536 * (y:Int)+(x:Int)=((y * 65536+x:Nat):Int) by omega]; exact u32_wrap _ (by omega)
   simp only [b_r1adl_0,t_r1adl_0,r_r1adl,c1,e2,e,Bs_len,go_sem,reduceDiv,reduceMod,↓reduceIte]
   exact ⟨by (first | omega | (simp only [inI]; omega)),by (first | omega | (simp only [inI]; omega))⟩
 ·cases hs
def r5tailS:Spec:=fun xs hp=>match xs,hp with
 | [.sl k ps],[]=>some ⟨.own 0 0,[.row 5 1 0 (Bs (tail4 (adlN (unB ps))))],ps=Bs (unB ps)∧(k=1∨ps=[])∧(unB ps).length≤1000000000⟩
 | _,_=>none
set_option maxRecDepth 8000 in
theorem r5tail_ok:FnOk Tryz.prog 95 r5tailS:=by
 refine fn_slim2 Tryz.func95 s_r5tail (Φ:=phiL [(137,[],r1adlS)]) (phi_cons r1adl_ok (by kernel_rfl) phi_nil) ?_
 intro xs hp r hs hp'
 unfold r5tailS at hs
 split at hs
 ·rename_i k ps
  injection hs with hs; subst hs
  have hP:=hp'
  have hA:=adlN_lt (unB ps)
  refine ⟨len_le (by kernel_rfl),?_⟩
  generalize hN:adlN (unB ps)=n at *
  have e1:(n:Int).tdiv 16777216=((n / 16777216:Nat):Int):=rfl
  have e2:(n:Int).tdiv 65536=((n / 65536:Nat):Int):=rfl
  have e3:(n:Int).tdiv 256=((n / 256:Nat):Int):=rfl
  have e4:((n / 65536:Nat):Int).tmod 256=((n / 65536 % 256:Nat):Int):=rfl
  have e5:((n / 256:Nat):Int).tmod 256=((n / 256 % 256:Nat):Int):=rfl
  have e6:(n:Int).tmod 256=((n % 256:Nat):Int):=rfl
  have w (z:Nat) (h:z<256):IntKind.u8.wrap (z:Int)=(z:Int):=by
   simp only [IntKind.wrap,IntKind.signed,IntKind.bits]; simp; omega
  have q1:=u32_wrap (n / 16777216) (by omega)
  have q2:=u32_wrap (n / 65536) (by omega)
  have q3:=u32_wrap (n / 256) (by omega)
  have w1:=w (n / 16777216) (by omega)
  have w2:=w (n / 65536 % 256) (by omega)
  have w3:=w (n / 256 % 256) (by omega)
  have w4:=w (n % 256) (by omega)
  have hT:Bs (tail4 n)=[.int .u8 ((n / 16777216:Nat):Int),.int .u8 ((n / 65536 % 256:Nat):Int),.int .u8 ((n / 256 % 256:Nat):Int),.int .u8 ((n % 256:Nat):Int)]:=by
   simp [tail4,Bs,ub]
   omega
  rw [hT]
  simp only [c_r5tail,r_r5tail,r1adlS,hN,e1,e2,e3,e4,e5,e6,q1,q2,q3,w1,w2,w3,w4,go_sem,reduceDiv,reduceMod,↓reduceIte,reduceAdd,Int.reduceNe]
  exact hP
 ·cases hs
def r5openS:Spec:=fun xs hp=>match xs,hp with
 | [.sl k ps,.int .i64 m],[]=>match zopenE tdNo (unB ps) m.toNat with
  | .ok (o,n)=>some ⟨.tup [.sl 1 (Bs o),.int .i64 (n:Int),.int .i64 0],[],inpOk k ps∧0≤m∧m≤100000000⟩
  | .error _=>none
 | _,_=>none
set_option maxRecDepth 8000 in
theorem r5open_ok:FnOk Tryz.prog 48 r5openS:=by
 refine fn_slim2 Tryz.func48 s_r5open (Φ:=(phiL [(11,[],r3rawS),(95,[],r5tailS)])) (phi_cons r3raw_ok (by kernel_rfl) (phi_cons r5tail_ok (by kernel_rfl) phi_nil)) ?_
 intro xs hp r hs hp'
 unfold r5openS at hs
 split at hs
 ·rename_i k ps m
  split at hs
  ·rename_i o n hz
   injection hs with hs; subst hs
   obtain ⟨h1,h2,h3⟩:=hp'
   have hL:=h1.2.1
   have hk:=h1.2.2
   have hbs:=h1.1
   generalize unB ps=b at *
   subst hbs
   obtain ⟨m,rfl⟩:=Int.eq_ofNat_of_zero_le h2
   rw [Int.toNat_natCast] at hz
   refine ⟨len_le (by kernel_rfl),?_⟩
   unfold zopenE at hz
   split at hz
   ·cases hz
   ·rename_i hl2
    split at hz
    ·cases hz
    ·rename_i hbad
     split at hz
     ·cases hz
     ·rename_i x nn hR
      split at hz
      ·cases hz
      ·rename_i h4
       split at hz
       ·rename_i heq
        injection hz with hz; injection hz with e1 e2
        subst e1 e2
        obtain rfl:=sl_k1 hk (by omega)
        obtain ⟨n1,n2⟩:=rawE_pos tdNo_ok hR
        rw [List.length_drop] at n1 h4
        have hx:(b.getD 0 0).toNat<256:=(b.getD 0 0).toNat_lt
        have hy:(b.getD 1 0).toNat<256:=(b.getD 1 0).toNat_lt
        have c1:decide ((b.length:Int)<2)=false:=decide_eq_false (by omega)
        generalize hX:(b.getD 0 0).toNat=xx at *
        generalize hY:(b.getD 1 0).toNat=yy at *
        simp only [headBad,Bool.or_eq_true,decide_eq_true_eq,not_or,Classical.not_not] at hbad
        obtain ⟨⟨⟨b1,b2⟩,b3⟩,b4⟩:=hbad
        have a1:(xx:Int).tmod 16=((xx % 16:Nat):Int):=rfl
        have a2:(xx:Int).tdiv 16=((xx / 16:Nat):Int):=rfl
        have a3:(yy:Int).tdiv 32=((yy / 32:Nat):Int):=rfl
        have a4:((yy / 32:Nat):Int).tmod 2=((yy / 32 % 2:Nat):Int):=rfl
        have a5:256 * (xx:Int)+(yy:Int)=((xx * 256+yy:Nat):Int):=by omega
        have a6:((xx * 256+yy:Nat):Int).tmod 31=(((xx * 256+yy) % 31:Nat):Int):=rfl
        have c2:decide (((xx % 16:Nat):Int)=8)=true:=decide_eq_true (by omega)
        have c3:decide (7<((xx / 16:Nat):Int))=false:=decide_eq_false (by omega)
        have c4:decide (((yy / 32 % 2:Nat):Int)=1)=false:=decide_eq_false (by omega)
        have c5:decide ((((xx * 256+yy) % 31:Nat):Int)=0)=true:=decide_eq_true (by omega)
        have e2:List.drop 2 (List.take b.length (Bs b))=Bs (b.drop 2):=by rw [List.take_of_length_le (by rw [Bs_length]; omega)]; simp [Bs]
        have hI:inpOk 1 (Bs (b.drop 2)):=⟨by rw [unB_Bs],by rw [unB_Bs,List.length_drop]; omega,.inl rfl⟩
        have c6:decide ((b.length:Int) - 2 - (nn:Int)<4)=false:=decide_eq_false (by omega)
        have e3:List.drop ((2:Int)+(nn:Int)).toNat (List.take ((6:Int)+(nn:Int)).toNat (Bs b))=Bs (tail4 (adlN x)):=by
         rw [show ((2:Int)+(nn:Int)).toNat=2+nn by omega,show ((6:Int)+(nn:Int)).toNat=6+nn by omega,heq]
         simp only [Bs,← List.map_drop,← List.map_take,List.drop_take,show 6+nn - (2+nn)=4 by omega]
        have c7:decide (tail4 (adlN x)=tail4 (adlN x))=true:=decide_eq_true rfl
        simp only [c_r5open,r_r5open,r3rawS,r5tailS,c1,a1,a2,a3,a4,a5,a6,c2,c3,c4,c5,c6,e2,e3,hX,hY,hR,unB_Bs,Bs_len,Int.toNat_natCast,Int.reduceToNat,go_sem,reduceDiv,reduceMod,↓reduceIte,reduceEqDiff,reduceSub,Nat.reduceLT,reduceAdd,reduceLeDiff,reduceCtorEq,Int.reduceNe,Int.reduceLE,Int.reduceToNat]
        exact ⟨by omega,by (first | omega | (simp only [inI]; omega)),by omega,by (first | omega | (simp only [inI]; omega)),by (first | omega | (simp only [inI]; omega)),by (first | omega | (simp only [inI]; omega)),by (first | omega | (simp only [inI]; omega)),by (first | omega | (simp only [inI]; omega)),⟨by omega,by omega⟩,⟨hI,by omega,by omega⟩,by (first | omega | (simp only [inI]; omega)),by (first | omega | (simp only [inI]; omega)),by (first | omega | (simp only [inI]; omega)),by (first | omega | (simp only [inI]; omega)),⟨by omega,by omega,by omega⟩,⟨.inl trivial,by omega⟩,by (first | omega | (simp only [inI]; omega)),rfl⟩
       ·cases hz
  ·cases hs
 ·cases hs
open Go.Shelf
def Tryz.lays169_ren:Go.Shelf.Ren:=⟨fun | 169=>89 | n=>n,fun | 70=>142 | 9=>9 | 0=>0 | 72=>144 | 37=>22 | 127=>177 | 3=>3 | 5=>5 | n=>n,fun | n=>n⟩
theorem Tryz.lays169:Go.Proofs.Lays.n169 Tryz.prog Tryz.lays169_ren:={
 mixed:=by kernel_rfl
 f169:=Tryz.func89.trans (congrArg some (by kernel_rfl))
 t0:=Tryz.underlying0
 a0:=Tryz.isAgg0
 z0:=Tryz.sizeOf0
 v0:=Tryz.zeroValue0
 t3:=Tryz.underlying3
 a3:=Tryz.isAgg3
 z3:=Tryz.sizeOf3
 v3:=Tryz.zeroValue3
 t9:=Tryz.underlying9
 a9:=Tryz.isAgg9
 z9:=Tryz.sizeOf9
 v9:=Tryz.zeroValue9
 t37:=Tryz.underlying22
 a37:=Tryz.isAgg22
 z37:=Tryz.sizeOf22
 v37:=Tryz.zeroValue22
 t70:=Tryz.underlying142
 a70:=Tryz.isAgg142
 z70:=Tryz.sizeOf142
 v70:=Tryz.zeroValue142
 t72:=Tryz.underlying144
 a72:=Tryz.isAgg144
 z72:=Tryz.sizeOf144
 v72:=Tryz.zeroValue144
 t127:=Tryz.underlying177
 a127:=Tryz.isAgg177
 z127:=Tryz.sizeOf177
 v127:=Tryz.zeroValue177 }
theorem Tryz.Builder_Extra_169:Builder.Extra Tryz.prog Tryz.lays169_ren:={
 sizeBuilder:=by kernel_rfl
 liesBuilder:=by kernel_rfl
 t5:=Tryz.underlying5
 a5:=Tryz.isAgg5
 z5:=Tryz.sizeOf5
 v5:=Tryz.zeroValue5
 infoByte:=by kernel_rfl
 cellsByte:=by kernel_rfl
 sizeByte:=by kernel_rfl
 neB5:=by decide }
open Go.RowKit in
theorem Tryz.Builder_String_any (B b:Nat) (l:List UInt8) (w:World) (h:Lib.IsBuilder 144 5 B b (Lib.byteCells l) w) (hBw:B≤w.heap.size) :
  Calls Tryz.prog 89 #[.pointer (some ⟨b,0,none⟩)] w fun e w' => e=.returned (.string ⟨l.toArray⟩)∧Below B w w' := Any.Builder_String_any Tryz.lays169 Tryz.Builder_Extra_169 B b l w h hBw
def Tryz.laysM171_ren:Go.Shelf.Ren:=⟨fun | 171=>94 | 243=>136 | 246=>166 | 283=>177 | 284=>178 | 285=>179 | 286=>180 | 129=>183 | 317=>188 | 318=>189 | 319=>190 | 320=>191 | 337=>192 | 338=>193 | n=>n,fun | 3=>3 | 9=>9 | 2=>2 | 4=>4 | 171=>234 | 0=>0 | 53=>55 | 37=>22 | 5=>5 | 173=>237 | 212=>247 | 51=>99 | 20=>20 | 213=>248 | 46=>148 | 232=>251 | 233=>252 | n=>n,fun | 17=>3 | 18=>4 | 19=>5 | n=>n⟩
theorem Tryz.laysM171:Go.Proofs.LaysM.n171 Tryz.prog Tryz.laysM171_ren:={
 mixed:=by kernel_rfl
 f129:=Tryz.func183.trans (congrArg some (by kernel_rfl))
 f171:=Tryz.func94.trans (congrArg some (by kernel_rfl))
 f243:=Tryz.func136.trans (congrArg some (by kernel_rfl))
 f246:=Tryz.func166.trans (congrArg some (by kernel_rfl))
 f283:=Tryz.func177.trans (congrArg some (by kernel_rfl))
 f284:=Tryz.func178.trans (congrArg some (by kernel_rfl))
 f285:=Tryz.func179.trans (congrArg some (by kernel_rfl))
 f286:=Tryz.func180.trans (congrArg some (by kernel_rfl))
 f317:=Tryz.func188.trans (congrArg some (by kernel_rfl))
 f318:=Tryz.func189.trans (congrArg some (by kernel_rfl))
 f319:=Tryz.func190.trans (congrArg some (by kernel_rfl))
 f320:=Tryz.func191.trans (congrArg some (by kernel_rfl))
 f337:=Tryz.func192.trans (congrArg some (by kernel_rfl))
 f338:=Tryz.func193.trans (congrArg some (by kernel_rfl))
 t0:=Tryz.underlying0
 a0:=Tryz.isAgg0
 z0:=Tryz.sizeOf0
 v0:=Tryz.zeroValue0
 t2:=Tryz.underlying2
 a2:=Tryz.isAgg2
 z2:=Tryz.sizeOf2
 v2:=Tryz.zeroValue2
 t3:=Tryz.underlying3
 a3:=Tryz.isAgg3
 z3:=Tryz.sizeOf3
 v3:=Tryz.zeroValue3
 t4:=Tryz.underlying4
 a4:=Tryz.isAgg4
 z4:=Tryz.sizeOf4
 v4:=Tryz.zeroValue4
 t5:=Tryz.underlying5
 a5:=Tryz.isAgg5
 z5:=Tryz.sizeOf5
 v5:=Tryz.zeroValue5
 t9:=Tryz.underlying9
 a9:=Tryz.isAgg9
 z9:=Tryz.sizeOf9
 v9:=Tryz.zeroValue9
 t20:=Tryz.underlying20
 a20:=Tryz.isAgg20
 z20:=Tryz.sizeOf20
 v20:=Tryz.zeroValue20
 t37:=Tryz.underlying22
 a37:=Tryz.isAgg22
 z37:=Tryz.sizeOf22
 v37:=Tryz.zeroValue22
 t46:=Tryz.underlying148
 a46:=Tryz.isAgg148
 z46:=Tryz.sizeOf148
 v46:=Tryz.zeroValue148
 t51:=Tryz.underlying99
 a51:=Tryz.isAgg99
 z51:=Tryz.sizeOf99
 v51:=Tryz.zeroValue99
 t53:=Tryz.underlying55
 a53:=Tryz.isAgg55
 z53:=Tryz.sizeOf55
 v53:=Tryz.zeroValue55
 t171:=Tryz.underlying234
 a171:=Tryz.isAgg234
 z171:=Tryz.sizeOf234
 v171:=Tryz.zeroValue234
 t173:=Tryz.underlying237
 a173:=Tryz.isAgg237
 z173:=Tryz.sizeOf237
 v173:=Tryz.zeroValue237
 t212:=Tryz.underlying247
 a212:=Tryz.isAgg247
 z212:=Tryz.sizeOf247
 v212:=Tryz.zeroValue247
 t213:=Tryz.underlying248
 a213:=Tryz.isAgg248
 z213:=Tryz.sizeOf248
 t232:=Tryz.underlying251
 a232:=Tryz.isAgg251
 z232:=Tryz.sizeOf251
 v232:=Tryz.zeroValue251
 t233:=Tryz.underlying252
 a233:=Tryz.isAgg252
 z233:=Tryz.sizeOf252
 v233:=Tryz.zeroValue252
 g17:=by kernel_rfl
 g18:=by kernel_rfl
 g19:=by kernel_rfl
 i0:=by kernel_rfl
 i2:=by kernel_rfl
 i3:=by kernel_rfl
 i4:=by kernel_rfl
 i5:=by kernel_rfl
 i9:=by kernel_rfl
 i20:=by kernel_rfl
 i37:=by kernel_rfl
 i46:=by kernel_rfl
 i51:=by kernel_rfl
 i53:=by kernel_rfl
 i171:=by kernel_rfl
 i173:=by kernel_rfl
 i212:=by kernel_rfl
 i232:=by kernel_rfl
 i233:=by kernel_rfl
 m17:=by kernel_rfl
 m18:=by kernel_rfl
 m19:=by kernel_rfl }
open Go.RowKit Go.Sort Go.Lib in
theorem Tryz.strconv_Itoa (n : Int) (h0 : -9223372036854775808 ≤ n) (h1 : n ≤ 9223372036854775807) (w : World) (htab : Lib.TabIs Tryz.prog w "internal/strconv.uint64pow10" .u64 Lib.pow10Tab) :
  Calls Tryz.prog 94 #[.int .i64 n] w fun e w' => e = .returned (.string ⟨(Lib.itoa n).toArray⟩) ∧ ∃ k os, w' = grow (w.drewN k) os := Any.strconv_Itoa Tryz.laysM171 n h0 h1 w htab
def Tryz.laysC172_ren:Go.Shelf.Ren:=⟨fun | 172=>92 | 244=>134 | 245=>135 | 247=>161 | 279=>162 | 280=>163 | 281=>164 | 282=>165 | 287=>174 | 316=>175 | 171=>94 | 205=>176 | 321=>186 | 322=>187 | 243=>136 | 246=>166 | 283=>177 | 284=>178 | 285=>179 | 286=>180 | 129=>183 | 317=>188 | 318=>189 | 319=>190 | 320=>191 | 337=>192 | 338=>193 | n=>n,fun | 9=>9 | 3=>3 | 75=>146 | 76=>151 | 4=>4 | 5=>5 | 167=>218 | 37=>22 | 0=>0 | 85=>219 | 2=>2 | 168=>221 | 53=>55 | 175=>229 | 46=>148 | 210=>232 | 127=>177 | 145=>245 | 143=>243 | 21=>21 | 171=>234 | 173=>237 | 212=>247 | 51=>99 | 20=>20 | 213=>248 | 232=>251 | 233=>252 | 80=>149 | n=>n,fun | 15=>1 | 16=>2 | 17=>3 | 18=>4 | 19=>5 | n=>n⟩
theorem Tryz.laysC172:Go.Proofs.LaysC.n172 Tryz.prog Tryz.laysC172_ren:={
 mixed:=by kernel_rfl
 f129:=Tryz.func183.trans (congrArg some (by kernel_rfl))
 f171:=Tryz.func94.trans (congrArg some (by kernel_rfl))
 f172:=Tryz.func92.trans (congrArg some (by kernel_rfl))
 f205:=Tryz.func176.trans (congrArg some (by kernel_rfl))
 f243:=Tryz.func136.trans (congrArg some (by kernel_rfl))
 f244:=Tryz.func134.trans (congrArg some (by kernel_rfl))
 f245:=Tryz.func135.trans (congrArg some (by kernel_rfl))
 f246:=Tryz.func166.trans (congrArg some (by kernel_rfl))
 f247:=Tryz.func161.trans (congrArg some (by kernel_rfl))
 f279:=Tryz.func162.trans (congrArg some (by kernel_rfl))
 f280:=Tryz.func163.trans (congrArg some (by kernel_rfl))
 f281:=Tryz.func164.trans (congrArg some (by kernel_rfl))
 f282:=Tryz.func165.trans (congrArg some (by kernel_rfl))
 f283:=Tryz.func177.trans (congrArg some (by kernel_rfl))
 f284:=Tryz.func178.trans (congrArg some (by kernel_rfl))
 f285:=Tryz.func179.trans (congrArg some (by kernel_rfl))
 f286:=Tryz.func180.trans (congrArg some (by kernel_rfl))
 f287:=Tryz.func174.trans (congrArg some (by kernel_rfl))
 f316:=Tryz.func175.trans (congrArg some (by kernel_rfl))
 f317:=Tryz.func188.trans (congrArg some (by kernel_rfl))
 f318:=Tryz.func189.trans (congrArg some (by kernel_rfl))
 f319:=Tryz.func190.trans (congrArg some (by kernel_rfl))
 f320:=Tryz.func191.trans (congrArg some (by kernel_rfl))
 f321:=Tryz.func186.trans (congrArg some (by kernel_rfl))
 f322:=Tryz.func187.trans (congrArg some (by kernel_rfl))
 f337:=Tryz.func192.trans (congrArg some (by kernel_rfl))
 f338:=Tryz.func193.trans (congrArg some (by kernel_rfl))
 t0:=Tryz.underlying0
 a0:=Tryz.isAgg0
 z0:=Tryz.sizeOf0
 v0:=Tryz.zeroValue0
 t2:=Tryz.underlying2
 a2:=Tryz.isAgg2
 z2:=Tryz.sizeOf2
 v2:=Tryz.zeroValue2
 t3:=Tryz.underlying3
 a3:=Tryz.isAgg3
 z3:=Tryz.sizeOf3
 v3:=Tryz.zeroValue3
 t4:=Tryz.underlying4
 a4:=Tryz.isAgg4
 z4:=Tryz.sizeOf4
 v4:=Tryz.zeroValue4
 t5:=Tryz.underlying5
 a5:=Tryz.isAgg5
 z5:=Tryz.sizeOf5
 v5:=Tryz.zeroValue5
 t9:=Tryz.underlying9
 a9:=Tryz.isAgg9
 z9:=Tryz.sizeOf9
 v9:=Tryz.zeroValue9
 t20:=Tryz.underlying20
 a20:=Tryz.isAgg20
 z20:=Tryz.sizeOf20
 v20:=Tryz.zeroValue20
 t21:=Tryz.underlying21
 a21:=Tryz.isAgg21
 z21:=Tryz.sizeOf21
 v21:=Tryz.zeroValue21
 t37:=Tryz.underlying22
 a37:=Tryz.isAgg22
 z37:=Tryz.sizeOf22
 v37:=Tryz.zeroValue22
 t46:=Tryz.underlying148
 a46:=Tryz.isAgg148
 z46:=Tryz.sizeOf148
 v46:=Tryz.zeroValue148
 t51:=Tryz.underlying99
 a51:=Tryz.isAgg99
 z51:=Tryz.sizeOf99
 v51:=Tryz.zeroValue99
 t53:=Tryz.underlying55
 a53:=Tryz.isAgg55
 z53:=Tryz.sizeOf55
 v53:=Tryz.zeroValue55
 t75:=Tryz.underlying146
 a75:=Tryz.isAgg146
 z75:=Tryz.sizeOf146
 v75:=Tryz.zeroValue146
 t76:=Tryz.underlying151
 a76:=Tryz.isAgg151
 z76:=Tryz.sizeOf151
 v76:=Tryz.zeroValue151
 t85:=Tryz.underlying219
 a85:=Tryz.isAgg219
 z85:=Tryz.sizeOf219
 v85:=Tryz.zeroValue219
 t127:=Tryz.underlying177
 a127:=Tryz.isAgg177
 z127:=Tryz.sizeOf177
 v127:=Tryz.zeroValue177
 t143:=Tryz.underlying243
 a143:=Tryz.isAgg243
 z143:=Tryz.sizeOf243
 v143:=Tryz.zeroValue243
 t145:=Tryz.underlying245
 a145:=Tryz.isAgg245
 z145:=Tryz.sizeOf245
 v145:=Tryz.zeroValue245
 t167:=Tryz.underlying218
 a167:=Tryz.isAgg218
 z167:=Tryz.sizeOf218
 v167:=Tryz.zeroValue218
 t168:=Tryz.underlying221
 a168:=Tryz.isAgg221
 z168:=Tryz.sizeOf221
 v168:=Tryz.zeroValue221
 t171:=Tryz.underlying234
 a171:=Tryz.isAgg234
 z171:=Tryz.sizeOf234
 v171:=Tryz.zeroValue234
 t173:=Tryz.underlying237
 a173:=Tryz.isAgg237
 z173:=Tryz.sizeOf237
 v173:=Tryz.zeroValue237
 t175:=Tryz.underlying229
 a175:=Tryz.isAgg229
 z175:=Tryz.sizeOf229
 v175:=Tryz.zeroValue229
 t210:=Tryz.underlying232
 a210:=Tryz.isAgg232
 z210:=Tryz.sizeOf232
 v210:=Tryz.zeroValue232
 t212:=Tryz.underlying247
 a212:=Tryz.isAgg247
 z212:=Tryz.sizeOf247
 v212:=Tryz.zeroValue247
 t213:=Tryz.underlying248
 a213:=Tryz.isAgg248
 z213:=Tryz.sizeOf248
 t232:=Tryz.underlying251
 a232:=Tryz.isAgg251
 z232:=Tryz.sizeOf251
 v232:=Tryz.zeroValue251
 t233:=Tryz.underlying252
 a233:=Tryz.isAgg252
 z233:=Tryz.sizeOf252
 v233:=Tryz.zeroValue252
 g15:=by kernel_rfl
 g16:=by kernel_rfl
 g17:=by kernel_rfl
 g18:=by kernel_rfl
 g19:=by kernel_rfl
 t80:=Tryz.underlying149
 a80:=Tryz.isAgg149
 z80:=Tryz.sizeOf149
 v80:=Tryz.zeroValue149
 i0:=by kernel_rfl
 i2:=by kernel_rfl
 i3:=by kernel_rfl
 i4:=by kernel_rfl
 i5:=by kernel_rfl
 i9:=by kernel_rfl
 i20:=by kernel_rfl
 i21:=by kernel_rfl
 i37:=by kernel_rfl
 i46:=by kernel_rfl
 i51:=by kernel_rfl
 i53:=by kernel_rfl
 i75:=by kernel_rfl
 i76:=by kernel_rfl
 i80:=by kernel_rfl
 i85:=by kernel_rfl
 i127:=by kernel_rfl
 i143:=by kernel_rfl
 i145:=by kernel_rfl
 i167:=by kernel_rfl
 i168:=by kernel_rfl
 i171:=by kernel_rfl
 i173:=by kernel_rfl
 i175:=by kernel_rfl
 i210:=by kernel_rfl
 i212:=by kernel_rfl
 i232:=by kernel_rfl
 i233:=by kernel_rfl
 m15:=by kernel_rfl
 m16:=by kernel_rfl
 m17:=by kernel_rfl
 m18:=by kernel_rfl
 m19:=by kernel_rfl
 c0:=by kernel_rfl
 c2:=by kernel_rfl
 c3:=by kernel_rfl
 c4:=by kernel_rfl
 c5:=by kernel_rfl
 c9:=by kernel_rfl
 c20:=by kernel_rfl
 c21:=by kernel_rfl
 c37:=by kernel_rfl
 c46:=by kernel_rfl
 c51:=by kernel_rfl
 c53:=by kernel_rfl
 c75:=by kernel_rfl
 c76:=by kernel_rfl
 c80:=by kernel_rfl
 c85:=by kernel_rfl
 c127:=by kernel_rfl
 c143:=by kernel_rfl
 c145:=by kernel_rfl
 c167:=by kernel_rfl
 c168:=by kernel_rfl
 c171:=by kernel_rfl
 c173:=by kernel_rfl
 c175:=by kernel_rfl
 c210:=by kernel_rfl
 c212:=by kernel_rfl
 c213:=by kernel_rfl
 c232:=by kernel_rfl
 c233:=by kernel_rfl }
open Go.RowKit in
theorem Tryz.strconv_Atoi_ok (s:ByteArray) (hmax:s.size≤9223372036854775806) (v:Int) (h:Lib.atoiAll s.data.toList=.ok v) (w:World) :
  Calls Tryz.prog 92 #[.string s] w fun e w' => e=.returned (.tuple #[.int .i64 v,.nilIface])∧(w' = w∨∃ t,w' = Lib.bytesWorld w 5 t):=Any.strconv_Atoi_ok Tryz.laysC172 s hmax v h w
open Go.RowKit in
theorem Tryz.strconv_Atoi_syntax (s:ByteArray) (hlim:s.size≤281474976710656) (h:Lib.atoiAll s.data.toList=Lib.atoiAll []) (ev:Value) (w:World) (hv:w.cell? ⟨1,0,none⟩=some ev) (hev:ev=.nilIface∨∃ te pe,ev=.iface te pe) :
  Calls Tryz.prog 92 #[.string s] w fun e w' => ∃ N,e=.returned (.tuple #[.int .i64 (0),.iface 221 (.pointer (some ⟨N,0,none⟩))])∧w.heap.size≤N∧w'.heap[N]?=some (.cells #[.string ⟨#[65,116,111,105]⟩,.string s,ev] 232 (0,0))∧Below w.heap.size w w' := Any.strconv_Atoi_syntax Tryz.laysC172 s hlim (h.trans rfl) ev w hv hev
open Go.RowKit in
theorem Tryz.strconv_Atoi_range (s:ByteArray) (hlim:s.size≤281474976710656) (h:Lib.atoiAll s.data.toList=.range) (ev:Value) (w:World) (hv:w.cell? ⟨2,0,none⟩=some ev) (hev:ev=.nilIface∨∃ te pe,ev=.iface te pe) :
  Calls Tryz.prog 92 #[.string s] w fun e w' => ∃ N,e=.returned (.tuple #[.int .i64 (Lib.atoiSat s.data.toList),.iface 221 (.pointer (some ⟨N,0,none⟩))])∧w.heap.size≤N∧w'.heap[N]?=some (.cells #[.string ⟨#[65,116,111,105]⟩,.string s,ev] 232 (0,0))∧Below w.heap.size w w' := Any.strconv_Atoi_range Tryz.laysC172 s hlim h ev w hv hev
def Tryz.lays187_ren:Go.Shelf.Ren:=⟨fun | 187=>129 | 255=>159 | n=>n,fun | 37=>22 | 5=>5 | 3=>3 | n=>n,fun | n=>n⟩
theorem Tryz.lays187:Go.Proofs.Lays.n187 Tryz.prog Tryz.lays187_ren:={
 mixed:=by kernel_rfl
 f187:=Tryz.func129.trans (congrArg some (by kernel_rfl))
 f255:=Tryz.func159.trans (congrArg some (by kernel_rfl))
 t3:=Tryz.underlying3
 a3:=Tryz.isAgg3
 z3:=Tryz.sizeOf3
 v3:=Tryz.zeroValue3
 t5:=Tryz.underlying5
 a5:=Tryz.isAgg5
 z5:=Tryz.sizeOf5
 v5:=Tryz.zeroValue5
 t37:=Tryz.underlying22
 a37:=Tryz.isAgg22
 z37:=Tryz.sizeOf22
 v37:=Tryz.zeroValue22 }
open Go.RowKit Go.Lib in
theorem Tryz.bytes_IndexByte_at (a:Addr) (n c:Nat) (xs:List Int) (cv:Int) (w:World) (hx:xs.length=n) (hc:∀ i,i<n→w.cell? (a.add i)=some (.int .u8 (xs.getD i 0))) :
  Calls Tryz.prog 129 #[.slice (some a) n c,.int .u8 cv] w fun e w' => e=.returned (.int .i64 (Lib.indexByte (Lib.bytesOf xs) cv.toNat.toUInt8))∧w' = w:=Any.bytes_IndexByte_at Tryz.lays187 a n c xs cv w hx hc
open Go.Lib (index hasPrefix trimPrefix cut indexAny)
open Go.Lib (index hasPrefix trimPrefix cut occAt indexAny replaceK replaceNum replaceAll)
theorem occAt_1 {s:List UInt8} {c:UInt8} {j:Nat} (h:occAt s [c] j=true):s[j]?=some c:=by
 unfold occAt at h
 cases hd:s.drop j with
 | nil=>rw [hd] at h; cases h
 | cons x r =>
  rw [hd] at h
  have e:c=x:=by simpa [List.isPrefixOf] using h
  have:=congrArg (fun l=>l[0]?) hd
  simpa [e] using this
theorem occAt_append (a p b:List UInt8):occAt (a ++ (p ++ b)) p a.length=true:=by
 unfold occAt
 rw [List.drop_left]
 simp [List.isPrefixOf_iff_prefix]
theorem index_app {a p b:List UInt8} (h:∀ j,j<a.length→occAt (a ++ (p ++ b)) p j=false):index (a ++ (p ++ b)) p=a.length :=
 Lib.index_first (by simp) (occAt_append a p b) h
theorem cut_app {a p b:List UInt8} (h:∀ j,j<a.length→occAt (a ++ (p ++ b)) p j=false):cut (a ++ (p ++ b)) p=(a,b,true):=by
 have e:=index_app h
 have e2:(index (a ++ (p ++ b)) p).toNat=a.length:=by omega
 unfold cut
 rw [if_pos (by omega),e2,List.take_left,← List.drop_drop,List.drop_left,List.drop_left]
theorem cut_1 {a b:List UInt8} {c:UInt8} (h:c ∉ a):cut (a ++ c :: b) [c]=(a,b,true):=by
 refine cut_app (p:=[c]) fun j hj=>?_
 rw [Bool.eq_false_iff]
 intro ho
 have:=occAt_1 ho
 rw [List.getElem?_append_left hj] at this
 exact h (List.mem_of_getElem? this)
theorem cut_1n {s:List UInt8} {c:UInt8} (h:c ∉ s):cut s [c]=(s,[],false):=by
 have e:index s [c] = -1:=by
  rcases Lib.index_spec s [c] with h1 | ⟨i,_,_,h3,_⟩
  ·exact h1.1
  ·exact absurd (List.mem_of_getElem? (occAt_1 h3)) h
 unfold cut
 rw [if_neg (by omega)]
theorem cut_t {s p:List UInt8} (h:(cut s p).2.2=true):s=(cut s p).1 ++ (p ++ (cut s p).2.1):=by
 unfold cut at h ⊢
 split at h
 ·rename_i hi
  rw [if_pos hi]
  simp only
  rcases Lib.index_spec s p with h1 | ⟨i,h1,h2,h3,_⟩
  ·omega
  ·have e:(index s p).toNat=i:=by omega
   rw [e]
   unfold occAt at h3
   rw [List.isPrefixOf_iff_prefix] at h3
   obtain ⟨r,hr⟩:=h3
   rw [← List.drop_drop,← hr,List.drop_left,hr,List.take_append_drop]
 ·cases h
theorem cut_f {s p:List UInt8} (h:(cut s p).2.2=false):(cut s p).1=s∧(cut s p).2.1=[]:=by
 unfold cut at h ⊢
 split at h
 ·cases h
 ·rename_i hi
  rw [if_neg hi]
  exact ⟨rfl,rfl⟩
noncomputable def sealF {α β:Type} (f:α→β):α→β:=Classical.choose (⟨f,fun _=>rfl⟩:∃ g:α→β,∀ a,g a=f a)
theorem sealF_eq {α β:Type} (f:α→β) (a:α):sealF f a=f a:=Classical.choose_spec (⟨f,fun _=>rfl⟩:∃ g:α→β,∀ a,g a=f a) a
theorem tdiv_nat (n k:Nat):((n:Int)).tdiv (k:Int)=((n / k:Nat):Int):=by rw [Int.tdiv_eq_ediv_of_nonneg (by omega)]; rfl
theorem tmod_nat (n k:Nat):((n:Int)).tmod (k:Int)=((n % k:Nat):Int):=by rw [Int.tmod_eq_emod_of_nonneg (by omega)]; rfl
theorem wrap8n {n:Nat} (h:n<256):IntKind.u8.wrap (n:Int)=(n:Int):=by rw [IntKind.wrap_u8']; omega
open Go.Lib (decDigits itoa atoiAll parseUint10 parseMag nDigits)
def dc (d:Nat):UInt8:=UInt8.ofNat (48+d)
theorem dc_toNat {d:Nat} (h:d<10):(dc d).toNat=48+d:=by simp [dc]; omega
theorem decD_small {n:Nat} (h:n<10):decDigits n=[dc n]:=by rw [decDigits,dif_pos h]; rfl
theorem decD_big {n:Nat} (h:10≤n):decDigits n=decDigits (n / 10) ++ [dc (n % 10)]:=by rw [decDigits,dif_neg (by omega)]; rfl
theorem decD_pow (k n:Nat) (h:n<10 ^ (k+1)):(decDigits n).length≤k+1:=by
 induction k generalizing n with
 | zero=>rw [decD_small (by simpa using h)]; simp
 | succ k ih =>
  by_cases h1:n<10
  ·rw [decD_small h1]; simp
  ·rw [decD_big (by omega)]
   have:=ih (n / 10) (by rw [Nat.pow_succ] at h; omega)
   simp; omega
theorem decD_head (n:Nat):∃ d r,decDigits n=dc d :: r∧d<10∧(0<n→0<d)∧(n<10→r=[]):=by
 induction n using Nat.strongRecOn with
 | _ n ih =>
  by_cases h:n<10
  ·exact ⟨n,[],decD_small h,h,fun h=>h,fun _=>rfl⟩
  ·obtain ⟨d,r,e,h1,h2,_⟩:=ih (n / 10) (by omega)
   refine ⟨d,r ++ [dc (n % 10)],by rw [decD_big (by omega),e]; rfl,h1,fun _=>h2 (by omega),fun hh=>absurd hh h⟩
theorem itoa_nat (n:Nat):itoa (n:Int)=decDigits n:=Lib.itoa_nonneg n
theorem pu_dec (n:Nat) (h:n<18446744073709551616) (r:List UInt8):parseUint10 0 (decDigits n ++ r)=parseUint10 n r:=by
 induction n using Nat.strongRecOn generalizing r with
 | _ n ih =>
  by_cases h1:n<10
  ·rw [decD_small h1]
   simp only [List.cons_append,List.nil_append,parseUint10,dc_toNat h1]
   rw [if_pos (by omega),if_neg (by omega),if_neg (by omega)]
   congr 1; omega
  ·rw [decD_big (by omega),List.append_assoc,ih (n / 10) (by omega) (by omega)]
   have hd:n % 10<10:=by omega
   simp only [List.cons_append,List.nil_append,parseUint10,dc_toNat hd]
   rw [if_pos (by omega),if_neg (by omega),if_neg (by omega)]
   congr 1; omega
theorem atoi_dec (n:Nat) (h:n<9223372036854775808):atoiAll (decDigits n)=.ok (n:Int):=by
 obtain ⟨d,r,e,h1,_,_⟩:=decD_head n
 have hp:parseMag (decDigits n)=.ok n:=by
  have:=pu_dec n (by omega) []
  rw [List.append_nil] at this
  unfold parseMag
  rw [if_neg (by rw [e]; simp),this]; rfl
 have ht:=dc_toNat h1
 rw [e] at hp ⊢
 unfold atoiAll
 simp only [ht]
 rw [if_neg (by omega),hp]
 simp only
 rw [if_neg (by omega),if_neg (by omega),if_neg (by omega)]
def decV (s:List UInt8):Option Nat :=
 match atoiAll s with
 | .ok v=>if 0≤v∧v<4611686018427387904∧itoa v=s then some v.toNat else none
 | _=>none
theorem decV_dec (n:Nat) (h:n<4611686018427387904):decV (decDigits n)=some n:=by
 unfold decV
 rw [atoi_dec n (by omega)]
 simp only
 rw [if_pos ⟨by omega,by omega,itoa_nat n⟩]; rfl
theorem decV_some {s:List UInt8} {n:Nat} (h:decV s=some n):s=decDigits n∧n<4611686018427387904:=by
 unfold decV at h
 split at h
 ·split at h
  ·rename_i v _ hc
   obtain ⟨h1,h2,h3⟩:=hc
   injection h with h
   subst h
   refine ⟨?_,by omega⟩
   rw [← h3,← itoa_nat,Int.toNat_of_nonneg h1]
  ·cases h
 ·cases h
end Go.Proofs.YtakolikdebfkeaaGreatDoor
