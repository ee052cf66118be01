import Derived.Test.YtakolikdebfkeaaDoorQFInf2
open Nat (reduceDiv reduceMod reduceSub reduceAdd reduceLeDiff reduceEqDiff)
set_option linter.all false
namespace Go.Proofs.YtakolikdebfkeaaDoor
open Go.RowKit
theorem phPut_ok:PhiOk Tryd.prog (phiL [(70,[],inumS),(96,[],iputS)]):=phi_cons inum_ok (by kernel_rfl) (phi_cons iput_ok (by kernel_rfl) phi_nil)
theorem phPut_px:PhXOk Tryd.prog (phXL [(70,[],inumX),(96,[],iputX),(75,[],ifailX)]):=phXL_cons inum_px (by kernel_rfl) (phXL_cons iput_px (by kernel_rfl) (phXL_cons ifail_ok (by kernel_rfl) phXL_nil))
theorem put_len {most:Nat} {out o:List UInt8} {c:UInt8} (h:putE most out c=.ok o):o=out ++ [c]∧out.length<most:=by
 unfold putE at h
 split at h
 ·cases h
 ·injection h with h; exact ⟨h.symm,by omega⟩
theorem bytesE_succ (B:List Bool) (most n p:Nat) (out:List UInt8):bytesE B most (n+1) p out=match numE B p 8 with
  | .error e=>.error e
  | .ok (c,p1)=>match putE most out (UInt8.ofNat c) with
   | .error e=>.error e
   | .ok o=>bytesE B most n p1 o:=rfl
theorem bytesE_len {B:List Bool} {most:Nat}:∀ {n p:Nat} {out o:List UInt8} {q:Nat},bytesE B most n p out=.ok (o,q)→o.length=out.length+n
 | 0,p,out,o,q,h=>by injection h with h; injection h with h _; rw [h]; rfl
 | n+1,p,out,o,q,h=>by
  rw [bytesE_succ] at h
  split at h
  ·cases h
  ·split at h
   ·cases h
   ·rename_i o' ho
    have:=bytesE_len h
    rw [this,(put_len ho).1,List.length_append]; simp; omega
def istorS:Spec:=fun xs hp=>match xs,hp with
 | [.ref 0 0 0],[.cells t [(1,.sl k ps),(1,.int .i64 a),(1,.own 1 v),(1,.int .i64 m)],.row 5 1 rv ys]=>match storedE (bitsOf (unB ps)) m.toNat a.toNat (unB ys) with
  | .ok (o,q)=>some ⟨.tup [],[.cells t [(1,.sl k ps),(1,.int .i64 (q:Int)),(1,.own 1 (v+(o.length - ys.length))),(1,.int .i64 m)],.row 5 1 (v+(o.length - ys.length)) (Bs o)],inpOk k ps∧0≤a∧outOk v rv ys m⟩
  | .error _=>none
 | _,_=>none
def istorX:XSpec:=fun xs hp=>match xs,hp with
 | [.ref 0 0 0],[.cells t [(1,.sl k ps),(1,.int .i64 a),(1,.own 1 v),(1,.int .i64 m)],.row 5 1 rv ys]=>match storedE (bitsOf (unB ps)) m.toNat a.toNat (unB ys) with
  | .ok _=>none
  | .error e=>some (wrongV e,inpOk k ps∧0≤a∧a≤8 * ((unB ps).length:Int)∧outOk v rv ys m∧(unB ys).length≤100000000)
 | _,_=>none
structure StI where
 i:Nat
 p:Nat
 out:List UInt8
theorem istor_ok:FnOk Tryd.prog 71 istorS:=by
 refine fn_slim2 Tryd.func71 s_istor phPut_ok ?_
 intro xs hp r hs hp'
 unfold istorS at hs
 split at hs
 ·rename_i t k ps a v m rv ys
  split at hs
  ·rename_i o q hb
   injection hs with hs; subst hs
   obtain ⟨h1,h2,h3,rfl,h4,h5⟩:=hp'
   obtain ⟨p,rfl⟩:∃ p:Nat,a=p:=⟨a.toNat,by omega⟩
   obtain ⟨mo,rfl⟩:∃ p:Nat,m=p:=⟨m.toNat,by omega⟩
   generalize unB ys=out at *
   subst h3
   rw [Bs_len]
   have hps:=h1.1
   generalize unB ps=b at *
   subst hps
   have hl:=inp_len h1
   rw [Int.toNat_natCast,Int.toNat_natCast] at hb
   refine ⟨len_le (by kernel_rfl),?_⟩
   unfold storedE at hb
   split at hb
   ·cases hb
   ·rename_i n p1 hn1
    split at hb
    ·cases hb
    ·rename_i n2 p2 hn2
     split at hb
     ·rename_i hne
      have e1:(((p:Int)+7).tdiv 8) * 8=(((p+7) / 8 * 8:Nat):Int):=by rw [Int.tdiv_eq_ediv_of_nonneg (by omega)]; omega
      have e1' : ((p:Int)+7).tdiv 8=(((p+7) / 8:Nat):Int):=by rw [Int.tdiv_eq_ediv_of_nonneg (by omega)]; omega
      obtain ⟨a1,a2,a3⟩:=numE_ok hn1
      obtain ⟨b1,b2,b3⟩:=numE_ok hn2
      rw [bitsOf_length] at a1 b1
      have hx1:=numB_lt (bitsOf b) ((p+7) / 8 * 8) 16
      rw [← a2] at hx1
      have c1:(!decide ((n2:Int)=65535 - (n:Int)))=false:=by rw [decide_eq_true (by omega)]; rfl
      have hlen:=bytesE_len hb
      simp only [c_istor,r_istor,inumS,e1,unB_Bs,Int.toNat_natCast,hn1,hn2,c1,go_sem,reduceDiv,reduceMod,↓reduceIte,reduceEqDiff,Nat.reduceBEq,reduceSub,Nat.reduceLT,reduceAdd,reduceLeDiff,reduceCtorEq,Int.reduceEq,Int.reduceNe,Int.reduceLT,Int.reduceLE,Int.reduceToNat]
      refine ⟨by (first | omega | (simp only [lenOk,bytesOk,inI,IntKind.bits,List.length_append,Bs_len,List.length_cons,List.length_nil,List.length_map,List.length_take,List.length_drop,List.length_replicate]; omega)),by rw [e1']; (first | omega | (simp only [lenOk,bytesOk,inI,IntKind.bits,List.length_append,Bs_len,List.length_cons,List.length_nil,List.length_map,List.length_take,List.length_drop,List.length_replicate]; omega)),by (first | omega | (simp only [lenOk,bytesOk,inI,IntKind.bits,List.length_append,Bs_len,List.length_cons,List.length_nil,List.length_map,List.length_take,List.length_drop,List.length_replicate]; omega)),⟨h1,by omega⟩,⟨h1,by omega⟩,by (first | omega | (simp only [lenOk,bytesOk,inI,IntKind.bits,List.length_append,Bs_len,List.length_cons,List.length_nil,List.length_map,List.length_take,List.length_drop,List.length_replicate]; omega)),?_⟩
      refine loop2P [] [0,27,28] [0,1] (fun i:StI=>⟨[(0,.ref 0 0 0),(27,.int .i64 (n:Int)),(28,.int .i64 (i.i:Int))],
       [.cells t [(1,.sl k (Bs b)),(1,.int .i64 (i.p:Int)),(1,.own 1 (v+i.i)),(1,.int .i64 (mo:Int))],.row 5 1 (v+i.i) (Bs i.out)]⟩)
       (fun i=>i.i≤n∧bytesE (bitsOf b) mo (n - i.i) i.p i.out=.ok (o,q)∧i.out.length=out.length+i.i) (fun i=>n - i.i) ⟨0,p2,out⟩ (by rfl) ⟨Nat.zero_le _,hb,rfl⟩ ⟨rfl,by rfl⟩ (fun i hi R hR=>?_)
      obtain ⟨i,p',out'⟩:=i
      obtain ⟨i1,i2,i3⟩:=hi
      simp only at i1 i2 i3
      by_cases hin:i<n
      ·have c2:decide ((i:Int)<(n:Int))=true:=decide_eq_true (by omega)
       rw [show n - i=(n - (i+1))+1 by omega,bytesE_succ] at i2
       split at i2
       ·cases i2
       ·rename_i c p3 hn3
        split at i2
        ·cases i2
        ·rename_i o' ho'
         obtain ⟨d1,d2,d3⟩:=numE_ok hn3
         have hx3:=numB_lt (bitsOf b) p' 8
         rw [← d2] at hx3
         have hw:IntKind.u8.wrap (c:Int)=(c:Int):=by rw [IntKind.wrap_u8']; omega
         have hln:=put_len ho'
         simp only [b_istor_0,inumS,iputS,c2,hw,unB_Bs,Int.toNat_natCast,Int.reduceToNat,hn3,ho',go_sem,reduceDiv,reduceMod,↓reduceIte,reduceEqDiff,Nat.reduceBEq,reduceSub,Nat.reduceLT,reduceAdd,reduceLeDiff,reduceCtorEq,Int.reduceEq,Int.reduceNe,Int.reduceLT,Int.reduceLE,Int.reduceToNat]
         refine ⟨⟨h1,by omega⟩,⟨⟨by rw [unB_Bs],rfl,h4,h5⟩,by omega,by omega⟩,by (first | omega | (simp only [lenOk,bytesOk,inI,IntKind.bits,List.length_append,Bs_len,List.length_cons,List.length_nil,List.length_map,List.length_take,List.length_drop,List.length_replicate]; omega)),hR _ ⟨i+1,p3,o'⟩ ⟨by simp only; omega,i2,by simp only; rw [hln.1,List.length_append]; simp; omega⟩ (by simp only; omega) rfl⟩
      ·have c2:decide ((i:Int)<(n:Int))=false:=decide_eq_false (by omega)
       obtain rfl:i=n:=by omega
       rw [Nat.sub_self] at i2
       injection i2 with i2; injection i2 with e1 e2; subst e1 e2
       have ev:v+i=v+(out'.length - out.length):=by omega
       simp only [b_istor_0,r_istor,c2,← ev,go_sem,reduceDiv,reduceMod,↓reduceIte,reduceEqDiff,Nat.reduceBEq,reduceSub,Nat.reduceLT,reduceAdd,reduceLeDiff,reduceCtorEq,Int.reduceEq,Int.reduceNe,Int.reduceLT,Int.reduceLE,Int.reduceToNat]
     ·cases hb
  ·cases hs
 ·cases hs
theorem istor_px:FnPX Tryd.prog 71 istorX:=by
 refine fn_slimX Tryd.func71 s_istor phPut_ok phPut_px ?_
 intro xs hp x0 p0 hs hp'
 unfold istorX at hs
 split at hs
 ·rename_i t k ps a v m rv ys
  split at hs
  ·cases hs
  ·rename_i e hb
   injection hs with hs; injection hs with e1 e2; subst e1 e2
   obtain ⟨h1,h2,h2',⟨h3,rfl,h4,h5⟩,h6⟩:=hp'
   obtain ⟨p,rfl⟩:∃ p:Nat,a=p:=⟨a.toNat,by omega⟩
   obtain ⟨mo,rfl⟩:∃ p:Nat,m=p:=⟨m.toNat,by omega⟩
   generalize unB ys=out at *
   subst h3
   have hps:=h1.1
   generalize unB ps=b at *
   subst hps
   have hl:=inp_len h1
   rw [Int.toNat_natCast,Int.toNat_natCast] at hb
   refine ⟨len_le (by kernel_rfl),?_⟩
   have e1:(((p:Int)+7).tdiv 8) * 8=(((p+7) / 8 * 8:Nat):Int):=by rw [Int.tdiv_eq_ediv_of_nonneg (by omega)]; omega
   have e1' : ((p:Int)+7).tdiv 8=(((p+7) / 8:Nat):Int):=by rw [Int.tdiv_eq_ediv_of_nonneg (by omega)]; omega
   unfold storedE at hb
   split at hb
   ·rename_i e' hn1
    injection hb with hb; subst hb
    simp only [c_istor,r_istor,inumS,inumX,wrongV,e1,unB_Bs,Int.toNat_natCast,Int.reduceToNat,hn1,go_sem,reduceDiv,reduceMod,↓reduceIte,reduceEqDiff,Nat.reduceBEq,reduceSub,Nat.reduceLT,reduceAdd,reduceLeDiff,reduceCtorEq,Int.reduceEq,Int.reduceNe,Int.reduceLT,Int.reduceLE,Int.reduceToNat]
    refine ⟨by (first | omega | (simp only [lenOk,bytesOk,inI,IntKind.bits,List.length_append,Bs_len,List.length_cons,List.length_nil,List.length_map,List.length_take,List.length_drop,List.length_replicate]; omega)),by rw [e1']; (first | omega | (simp only [lenOk,bytesOk,inI,IntKind.bits,List.length_append,Bs_len,List.length_cons,List.length_nil,List.length_map,List.length_take,List.length_drop,List.length_replicate]; omega)),by (first | omega | (simp only [lenOk,bytesOk,inI,IntKind.bits,List.length_append,Bs_len,List.length_cons,List.length_nil,List.length_map,List.length_take,List.length_drop,List.length_replicate]; omega)),h1,by omega,by omega⟩
   ·rename_i n p1 hn1
    obtain ⟨a1,a2,a3⟩:=numE_ok hn1
    rw [bitsOf_length] at a1
    have hx1:=numB_lt (bitsOf b) ((p+7) / 8 * 8) 16
    rw [← a2] at hx1
    split at hb
    ·rename_i e' hn2
     injection hb with hb; subst hb
     simp only [c_istor,r_istor,inumS,inumX,wrongV,e1,unB_Bs,Int.toNat_natCast,Int.reduceToNat,hn1,hn2,go_sem,reduceDiv,reduceMod,↓reduceIte,reduceEqDiff,Nat.reduceBEq,reduceSub,Nat.reduceLT,reduceAdd,reduceLeDiff,reduceCtorEq,Int.reduceEq,Int.reduceNe,Int.reduceLT,Int.reduceLE,Int.reduceToNat]
     refine ⟨by (first | omega | (simp only [lenOk,bytesOk,inI,IntKind.bits,List.length_append,Bs_len,List.length_cons,List.length_nil,List.length_map,List.length_take,List.length_drop,List.length_replicate]; omega)),by rw [e1']; (first | omega | (simp only [lenOk,bytesOk,inI,IntKind.bits,List.length_append,Bs_len,List.length_cons,List.length_nil,List.length_map,List.length_take,List.length_drop,List.length_replicate]; omega)),by (first | omega | (simp only [lenOk,bytesOk,inI,IntKind.bits,List.length_append,Bs_len,List.length_cons,List.length_nil,List.length_map,List.length_take,List.length_drop,List.length_replicate]; omega)),⟨h1,by omega⟩,h1,by omega,by omega⟩
    ·rename_i n2 p2 hn2
     obtain ⟨b1,b2,b3⟩:=numE_ok hn2
     rw [bitsOf_length] at b1
     split at hb
     ·rename_i hne
      have c1:(!decide ((n2:Int)=65535 - (n:Int)))=false:=by rw [decide_eq_true (by omega)]; rfl
      simp only [c_istor,r_istor,inumS,inumX,e1,unB_Bs,Int.toNat_natCast,Int.reduceToNat,hn1,hn2,c1,go_sem,reduceDiv,reduceMod,↓reduceIte,reduceEqDiff,Nat.reduceBEq,reduceSub,Nat.reduceLT,reduceAdd,reduceLeDiff,reduceCtorEq,Int.reduceEq,Int.reduceNe,Int.reduceLT,Int.reduceLE,Int.reduceToNat]
      refine ⟨by (first | omega | (simp only [lenOk,bytesOk,inI,IntKind.bits,List.length_append,Bs_len,List.length_cons,List.length_nil,List.length_map,List.length_take,List.length_drop,List.length_replicate]; omega)),by rw [e1']; (first | omega | (simp only [lenOk,bytesOk,inI,IntKind.bits,List.length_append,Bs_len,List.length_cons,List.length_nil,List.length_map,List.length_take,List.length_drop,List.length_replicate]; omega)),by (first | omega | (simp only [lenOk,bytesOk,inI,IntKind.bits,List.length_append,Bs_len,List.length_cons,List.length_nil,List.length_map,List.length_take,List.length_drop,List.length_replicate]; omega)),⟨h1,by omega⟩,⟨h1,by omega⟩,by (first | omega | (simp only [lenOk,bytesOk,inI,IntKind.bits,List.length_append,Bs_len,List.length_cons,List.length_nil,List.length_map,List.length_take,List.length_drop,List.length_replicate]; omega)),?_⟩
      refine loop3P [] [0,27,28] [0,1] (fun i:StI=>⟨[(0,.ref 0 0 0),(27,.int .i64 (n:Int)),(28,.int .i64 (i.i:Int))],
       [.cells t [(1,.sl k (Bs b)),(1,.int .i64 (i.p:Int)),(1,.own 1 (v+i.i)),(1,.int .i64 (mo:Int))],.row 5 1 (v+i.i) (Bs i.out)]⟩)
       (fun i=>i.i≤n∧i.p≤8 * b.length∧bytesE (bitsOf b) mo (n - i.i) i.p i.out=.error e∧i.out.length=out.length+i.i) (fun i=>n - i.i) ⟨0,p2,out⟩ (by rfl) ⟨Nat.zero_le _,by simp only; omega,hb,rfl⟩ ⟨rfl,by rfl⟩ (fun i hi R hR=>?_)
      obtain ⟨i,p',out'⟩:=i
      obtain ⟨i1,i4,i2,i3⟩:=hi
      simp only at i1 i2 i3 i4
      by_cases hin:i<n
      ·have c2:decide ((i:Int)<(n:Int))=true:=decide_eq_true (by omega)
       rw [show n - i=(n - (i+1))+1 by omega,bytesE_succ] at i2
       split at i2
       ·rename_i e' hn3
        injection i2 with i2; subst i2
        simp only [b_istor_0,inumS,inumX,wrongV,c2,unB_Bs,Int.toNat_natCast,Int.reduceToNat,hn3,go_sem,reduceDiv,reduceMod,↓reduceIte,reduceEqDiff,Nat.reduceBEq,reduceSub,Nat.reduceLT,reduceAdd,reduceLeDiff,reduceCtorEq,Int.reduceEq,Int.reduceNe,Int.reduceLT,Int.reduceLE,Int.reduceToNat]
        exact ⟨h1,by omega,by omega⟩
       ·rename_i c p3 hn3
        obtain ⟨d1,d2,d3⟩:=numE_ok hn3
        rw [bitsOf_length] at d1
        have hx3:=numB_lt (bitsOf b) p' 8
        rw [← d2] at hx3
        have hw:IntKind.u8.wrap (c:Int)=(c:Int):=by rw [IntKind.wrap_u8']; omega
        split at i2
        ·rename_i e' ho'
         injection i2 with i2; subst i2
         simp only [b_istor_0,inumS,inumX,iputS,iputX,wrongV,c2,hw,unB_Bs,Int.toNat_natCast,Int.reduceToNat,hn3,ho',go_sem,reduceDiv,reduceMod,↓reduceIte,reduceEqDiff,Nat.reduceBEq,reduceSub,Nat.reduceLT,reduceAdd,reduceLeDiff,reduceCtorEq,Int.reduceEq,Int.reduceNe,Int.reduceLT,Int.reduceLE,Int.reduceToNat]
         exact ⟨⟨h1,by omega⟩,⟨by rw [unB_Bs],rfl,h4,h5⟩,by omega⟩
        ·rename_i o' ho'
         have hln:=put_len ho'
         simp only [b_istor_0,inumS,inumX,iputS,iputX,c2,hw,unB_Bs,Int.toNat_natCast,Int.reduceToNat,hn3,ho',go_sem,reduceDiv,reduceMod,↓reduceIte,reduceEqDiff,Nat.reduceBEq,reduceSub,Nat.reduceLT,reduceAdd,reduceLeDiff,reduceCtorEq,Int.reduceEq,Int.reduceNe,Int.reduceLT,Int.reduceLE,Int.reduceToNat]
         refine ⟨⟨h1,by omega⟩,⟨⟨by rw [unB_Bs],rfl,h4,h5⟩,by omega,by omega⟩,by (first | omega | (simp only [lenOk,bytesOk,inI,IntKind.bits,List.length_append,Bs_len,List.length_cons,List.length_nil,List.length_map,List.length_take,List.length_drop,List.length_replicate]; omega)),hR _ ⟨i+1,p3,o'⟩ ⟨by simp only; omega,by simp only; omega,i2,by simp only; rw [hln.1,List.length_append]; simp; omega⟩ (by simp only; omega) rfl⟩
      ·obtain rfl:i=n:=by omega
       rw [Nat.sub_self] at i2
       cases i2
     ·rename_i hne
      injection hb with hb; subst hb
      have c1:(!decide ((n2:Int)=65535 - (n:Int)))=true:=by rw [decide_eq_false (by omega)]; rfl
      simp only [c_istor,r_istor,inumS,inumX,ifailX,wrongV,e1,unB_Bs,Int.toNat_natCast,Int.reduceToNat,hn1,hn2,c1,go_sem,reduceDiv,reduceMod,↓reduceIte,reduceEqDiff,Nat.reduceBEq,reduceSub,Nat.reduceLT,reduceAdd,reduceLeDiff,reduceCtorEq,Int.reduceEq,Int.reduceNe,Int.reduceLT,Int.reduceLE,Int.reduceToNat]
      refine ⟨by (first | omega | (simp only [lenOk,bytesOk,inI,IntKind.bits,List.length_append,Bs_len,List.length_cons,List.length_nil,List.length_map,List.length_take,List.length_drop,List.length_replicate]; omega)),by rw [e1']; (first | omega | (simp only [lenOk,bytesOk,inI,IntKind.bits,List.length_append,Bs_len,List.length_cons,List.length_nil,List.length_map,List.length_take,List.length_drop,List.length_replicate]; omega)),by (first | omega | (simp only [lenOk,bytesOk,inI,IntKind.bits,List.length_append,Bs_len,List.length_cons,List.length_nil,List.length_map,List.length_take,List.length_drop,List.length_replicate]; omega)),⟨h1,by omega⟩,⟨h1,by omega⟩,by (first | omega | (simp only [lenOk,bytesOk,inI,IntKind.bits,List.length_append,Bs_len,List.length_cons,List.length_nil,List.length_map,List.length_take,List.length_drop,List.length_replicate]; omega))⟩
 ·cases hs
theorem bitE_pos {B:List Bool} {p x q:Nat} (h:bitE B p=.ok (x,q)):q=p+1∧q≤B.length:=by
 unfold bitE at h
 split at h
 ·rename_i b hb
  injection h with h; injection h with e1 e2
  have:=(List.getElem?_eq_some_iff.1 hb).1
  omega
 ·cases h
theorem signGo_pos {ls:List Nat} {B:List Bool} {N:Nat} (h0:0<N) (hN:∀ i∈sgs ls,i<N):∀ {k l n p s q:Nat},k+l=15→signGo ls B k l n p=.ok (s,q)→p<q∧q≤B.length∧s<N
 | 0,l,n,p,s,q,_,h=>by cases h
 | k+1,l,n,p,s,q,hk,h=>by
  unfold signGo at h
  split at h
  ·cases h
  ·rename_i b p' hb
   obtain ⟨h1,h2⟩:=bitE_pos hb
   split at h
   ·rename_i hc
    injection h with h; injection h with e1 e2
    refine ⟨by omega,by omega,?_⟩
    rw [← e1,List.getD_eq_getElem?_getD]
    cases hg:(idxs ls (l+1))[2 * n+b - fstL ls (l+1)]? with
    | none=>exact h0
    | some i =>
     refine hN i ?_
     have hr:2 * n+b - fstL ls (l+1)<cntL ls (l+1):=by
      have:=(List.getElem?_eq_some_iff.1 hg).1
      rw [idxs_length] at this; exact this
     rw [← sgs_get ls (by omega) hr] at hg
     exact List.mem_of_getElem? hg
   ·split at h
    ·cases h
    ·have:=signGo_pos h0 hN (by omega) h
     omega
theorem signE_pos {ls:List Nat} {B:List Bool} {N p s q:Nat} (h0:0<N) (hN:∀ i∈sgs ls,i<N) (h:signE ls B p=.ok (s,q)):p<q∧q≤B.length∧s<N:=signGo_pos h0 hN rfl h
theorem lenE_pos {B:List Bool} {p s n q:Nat} (h:lenE B s p=.ok (n,q)) (hp:p≤B.length):q≤B.length∧n≤1000∧p≤q:=by
 unfold lenE at h
 split at h
 ·injection h with h; injection h with e1 e2; omega
 ·split at h
  ·injection h with h; injection h with e1 e2; omega
  ·split at h
   ·cases h
   ·rename_i h28
    split at h
    ·cases h
    ·rename_i x q' hn
     injection h with h; injection h with e1 e2
     obtain ⟨a1,a2,a3⟩:=numE_ok hn
     have hx:=numB_lt B p ((s - 257) / 4 - 1)
     rw [← a2] at hx
     have h5:(2:Nat) ^ ((s - 257) / 4 - 1)≤2 ^ 6:=Nat.pow_le_pow_right (by omega) (by omega)
     have hm:=shl_le (4+(s - 257) % 4) ((s - 257) / 4 - 1) 6 (by omega)
     omega
theorem distE_pos {B:List Bool} {p s n q:Nat} (h:distE B s p=.ok (n,q)) (hp:p≤B.length):q≤B.length∧0<n∧n≤100000∧p≤q:=by
 unfold distE at h
 split at h
 ·injection h with h; injection h with e1 e2; omega
 ·split at h
  ·cases h
  ·rename_i h28
   split at h
   ·cases h
   ·rename_i x q' hn
    injection h with h; injection h with e1 e2
    obtain ⟨a1,a2,a3⟩:=numE_ok hn
    have hx:=numB_lt B p (s / 2 - 1)
    rw [← a2] at hx
    have h5:(2:Nat) ^ (s / 2 - 1)≤2 ^ 13:=Nat.pow_le_pow_right (by omega) (by omega)
    have hm:=shl_le (2+s % 2) (s / 2 - 1) 13 (by omega)
    omega
theorem copyE_succ (most back n:Nat) (out:List UInt8):copyE most back (n+1) out=match putE most out (out.getD (out.length - back) 0) with
  | .error e=>.error e
  | .ok o=>copyE most back n o:=rfl
theorem copyE_len {most back:Nat}:∀ {n:Nat} {out o:List UInt8},copyE most back n out=.ok o→o.length=out.length+n
 | 0,out,o,h=>by injection h with h; rw [h]; rfl
 | n+1,out,o,h=>by
  rw [copyE_succ] at h
  split at h
  ·cases h
  ·rename_i o' ho
   have:=copyE_len h
   rw [this,(put_len ho).1,List.length_append]; simp; omega
def codeOk (c:AV):Prop:=c=codeV (lsOf c)∧(∀ i∈sgs (lsOf c),i<320)∧(sgs (lsOf c)).length≤1000
theorem sign_agg (ls:List Nat):signE (lsOf (.agg [(16,.blob (cntV ls)),(1,.sl 1 ((sgs ls).map iV))]))=signE ls:=signE_lsOf ls
theorem code_agg (ls:List Nat):AV.agg [(16,.blob (cntV ls)),(1,.sl 1 ((sgs ls).map iV))]=codeV (lsOf (.agg [(16,.blob (cntV ls)),(1,.sl 1 ((sgs ls).map iV))])):=(lsOf_code ls).symm
theorem phSg_ok:PhiOk Tryd.prog (phiL [(97,[],isignS),(96,[],iputS),(98,[],ilenS),(99,[],idistS)]):=phi_cons isign_ok (by kernel_rfl) (phi_cons iput_ok (by kernel_rfl) (phi_cons ilen_ok (by kernel_rfl) (phi_cons idist_ok (by kernel_rfl) phi_nil)))
theorem phSg_px:PhXOk Tryd.prog (phXL [(97,[],isignX),(96,[],iputX),(98,[],ilenX),(99,[],idistX),(75,[],ifailX)]):=phXL_cons isign_px (by kernel_rfl) (phXL_cons iput_px (by kernel_rfl) (phXL_cons ilen_px (by kernel_rfl) (phXL_cons idist_px (by kernel_rfl) (phXL_cons ifail_ok (by kernel_rfl) phXL_nil))))
noncomputable def isignsS:Spec:=fun xs hp=>match xs,hp with
 | [.ref 0 0 0,.agg [(16,.blob cs),(1,.sl 1 sg)],.agg [(16,.blob cd),(1,.sl 1 sd)]],[.cells t [(1,.sl k ps),(1,.int .i64 a),(1,.own 1 v),(1,.int .i64 m)],.row 5 1 rv ys]=>match signsE (lsOf (.agg [(16,.blob cs),(1,.sl 1 sg)])) (lsOf (.agg [(16,.blob cd),(1,.sl 1 sd)])) (bitsOf (unB ps)) m.toNat ((bitsOf (unB ps)).length+1) a.toNat (unB ys) with
  | .ok (o,q)=>some ⟨.tup [],[.cells t [(1,.sl k ps),(1,.int .i64 (q:Int)),(1,.own 1 (v+(o.length - ys.length))),(1,.int .i64 m)],.row 5 1 (v+(o.length - ys.length)) (Bs o)],inpOk k ps∧0≤a∧a≤8 * ((unB ps).length:Int)∧outOk v rv ys m∧codeOk (.agg [(16,.blob cs),(1,.sl 1 sg)])∧codeOk (.agg [(16,.blob cd),(1,.sl 1 sd)])⟩
  | .error _=>none
 | _,_=>none
noncomputable def isignsX:XSpec:=fun xs hp=>match xs,hp with
 | [.ref 0 0 0,.agg [(16,.blob cs),(1,.sl 1 sg)],.agg [(16,.blob cd),(1,.sl 1 sd)]],[.cells t [(1,.sl k ps),(1,.int .i64 a),(1,.own 1 v),(1,.int .i64 m)],.row 5 1 rv ys]=>match signsE (lsOf (.agg [(16,.blob cs),(1,.sl 1 sg)])) (lsOf (.agg [(16,.blob cd),(1,.sl 1 sd)])) (bitsOf (unB ps)) m.toNat ((bitsOf (unB ps)).length+1) a.toNat (unB ys) with
  | .ok _=>none
  | .error e=>some (wrongV e,inpOk k ps∧0≤a∧a≤8 * ((unB ps).length:Int)∧outOk v rv ys m∧(unB ys).length≤100000000∧codeOk (.agg [(16,.blob cs),(1,.sl 1 sg)])∧codeOk (.agg [(16,.blob cd),(1,.sl 1 sd)]))
 | _,_=>none
theorem codeOk_of {cs:List Value} {sg:List AV} (h:codeOk (.agg [(16,.blob cs),(1,.sl 1 sg)])):∃ ls,cs=cntV ls∧sg=(sgs ls).map iV∧(∀ i∈sgs ls,i<320)∧totL ls 15≤1000∧lsOf (.agg [(16,.blob cs),(1,.sl 1 sg)])=ls:=by
 obtain ⟨h1,h2,h3⟩:=h
 refine ⟨lsOf (.agg [(16,.blob cs),(1,.sl 1 sg)]),?_⟩
 generalize lsOf (.agg [(16,.blob cs),(1,.sl 1 sg)])=ls at *
 unfold codeV at h1
 simp only [AV.agg.injEq,List.cons.injEq,Prod.mk.injEq,true_and,AV.blob.injEq,AV.sl.injEq,and_true] at h1
 exact ⟨h1.1,h1.2,h2,by rw [← sgs_len]; exact h3,rfl⟩
structure SsI where
 f:Nat
 p:Nat
 out:List UInt8
 vr:Nat
structure CpI where
 i:Nat
 out:List UInt8
set_option maxHeartbeats 1000000 in
set_option maxRecDepth 8000 in
theorem isigns_ok:FnOk Tryd.prog 72 isignsS:=by
 refine fn_slim2A Tryd.func72 s_isigns phSg_ok ?_
 intro xs hp r hs hp'
 unfold isignsS at hs
 split at hs
 ·rename_i cs sg cd sd t k ps a v m rv ys
  split at hs
  ·rename_i o q hb
   injection hs with hs; subst hs
   obtain ⟨h1,h2,h2',⟨h3,rfl,h4,h5⟩,hc,hd⟩:=hp'
   obtain ⟨ls,rfl,rfl,hl1,hl2,hl3⟩:=codeOk_of hc
   obtain ⟨ds,rfl,rfl,hd1,hd2,hd3⟩:=codeOk_of hd
   rw [hl3,hd3] at hb
   obtain ⟨p,rfl⟩:∃ p:Nat,a=p:=⟨a.toNat,by omega⟩
   obtain ⟨mo,rfl⟩:∃ p:Nat,m=p:=⟨m.toNat,by omega⟩
   generalize unB ys=out at *
   subst h3
   rw [Bs_len]
   have hps:=h1.1
   generalize unB ps=b at *
   subst hps
   have hl:=inp_len h1
   rw [Int.toNat_natCast,Int.toNat_natCast] at hb
   refine ⟨len_le (by kernel_rfl),?_⟩
   simp only [c_isigns,go_sem,reduceDiv,reduceMod,↓reduceIte,reduceEqDiff,Nat.reduceBEq,reduceSub,Nat.reduceLT,reduceAdd,reduceLeDiff,reduceCtorEq,Int.reduceEq,Int.reduceNe,Int.reduceLT,Int.reduceLE,Int.reduceToNat]
   refine loop2P [] [0,4,5] [0,1,2,3] (fun i:SsI=>⟨[(0,.ref 0 0 0),(4,.ref 2 0 0),(5,.ref 3 0 0)],[.cells t [(1,.sl k (Bs b)),(1,.int .i64 (i.p:Int)),(1,.own 1 i.vr),(1,.int .i64 (mo:Int))],.row 5 1 i.vr (Bs i.out),.cells 128 [(16,.blob (cntV ls)),(1,.sl 1 ((sgs ls).map iV))],.cells 128 [(16,.blob (cntV ds)),(1,.sl 1 ((sgs ds).map iV))]]⟩) (fun i=>i.p≤8 * b.length∧signsE ls ds (bitsOf b) mo i.f i.p i.out=.ok (o,q)∧out.length≤i.out.length∧i.vr=v+(i.out.length - out.length)) (fun i=>i.f) ⟨(bitsOf b).length+1,p,out,v⟩ (by rfl) ⟨by simp only; omega,hb,Nat.le_refl _,by simp⟩ ⟨rfl,by rfl⟩ (fun i hi R hR=>?_)
   obtain ⟨f,p,o1,vr⟩:=i
   obtain ⟨i0,i1,i2,i3⟩:=hi
   simp only at i0 i1 i2 i3
   cases f with
   | zero=>cases i1
   | succ f =>
    rw [signsE_succ] at i1
    unfold signK at i1
    split at i1
    ·cases i1
    ·rename_i s p1 hs1
     obtain ⟨s1,s2,s3⟩:=signE_pos (by omega) hl1 hs1
     rw [bitsOf_length] at s2
     split at i1
     ·rename_i hs256
      split at i1
      ·cases i1
      ·rename_i o2 ho2
       have hw:IntKind.u8.wrap (s:Int)=(s:Int):=by rw [IntKind.wrap_u8']; omega
       have c1:decide ((s:Int)<256)=true:=decide_eq_true (by omega)
       have hln:=put_len ho2
       simp only [b_isigns_1,isignS,iputS,sign_agg,unB_Bs,Int.toNat_natCast,hs1,ho2,c1,hw,go_sem,reduceDiv,reduceMod,↓reduceIte,reduceEqDiff,Nat.reduceBEq,reduceSub,Nat.reduceLT,reduceAdd,reduceLeDiff,reduceCtorEq,Int.reduceEq,Int.reduceNe,Int.reduceLT,Int.reduceLE,Int.reduceToNat]
       have hb8:(s:Int).toNat=s:=Int.toNat_natCast s
       refine ⟨⟨h1,by omega,code_agg ls,by rw [sgs_len]; omega⟩,⟨⟨by rw [unB_Bs],rfl,h4,h5⟩,by omega,by omega⟩,hR _ ⟨f,p1,o2,vr+1⟩ ⟨by simp only; omega,i1,by simp only; rw [hln.1,List.length_append]; simp; omega,by simp only; rw [hln.1,List.length_append]; simp; omega⟩ (by simp only; omega) rfl⟩
     ·rename_i hs256
      have c1:decide ((s:Int)<256)=false:=decide_eq_false (by omega)
      split at i1
      ·rename_i he
       injection i1 with i1; injection i1 with e1 e2; subst e1 e2
       have c2:decide ((s:Int)=256)=true:=decide_eq_true (by omega)
       subst i3
       simp only [b_isigns_1,r_isigns,isignS,sign_agg,unB_Bs,Int.toNat_natCast,hs1,c1,c2,go_sem,reduceDiv,reduceMod,↓reduceIte,reduceEqDiff,Nat.reduceBEq,reduceSub,Nat.reduceLT,reduceAdd,reduceLeDiff,reduceCtorEq,Int.reduceEq,Int.reduceNe,Int.reduceLT,Int.reduceLE,Int.reduceToNat]
       refine ⟨h1,by omega,code_agg ls,by rw [sgs_len]; omega⟩
      ·rename_i hne
       have c2:decide ((s:Int)=256)=false:=decide_eq_false (by omega)
       split at i1
       ·cases i1
       ·rename_i n p2 hl2'
        have hp2:=lenE_pos hl2' (by rw [bitsOf_length]; omega)
        rw [bitsOf_length] at hp2
        split at i1
        ·cases i1
        ·rename_i htd
         have c3:decide ((totL ds 15:Int)=0)=false:=decide_eq_false (by omega)
         split at i1
         ·cases i1
         ·rename_i d p3 hd3'
          obtain ⟨d1,d2,d3⟩:=signE_pos (by omega) hd1 hd3'
          rw [bitsOf_length] at d2
          split at i1
          ·cases i1
          ·rename_i back p4 hd4
           have hp4:=distE_pos hd4 (by rw [bitsOf_length]; omega)
           rw [bitsOf_length] at hp4
           split at i1
           ·cases i1
           ·rename_i hbk
            have c4:decide ((o1.length:Int)<(back:Int))=false:=decide_eq_false (by omega)
            split at i1
            ·cases i1
            ·rename_i o2 ho2
             have hcl:=copyE_len ho2
             simp only [b_isigns_1,isignS,ilenS,lenD_eq,idistS,sign_agg,unB_Bs,Bs_len,Int.toNat_natCast,List.length_map,sgs_len,hs1,hl2',hd3',hd4,c1,c2,c3,c4,go_sem,reduceDiv,reduceMod,↓reduceIte,reduceEqDiff,Nat.reduceBEq,reduceSub,Nat.reduceLT,reduceAdd,reduceLeDiff,reduceCtorEq,Int.reduceEq,Int.reduceNe,Int.reduceLT,Int.reduceLE,Int.reduceToNat]
             refine ⟨⟨h1,by omega,code_agg ls,hl2⟩,⟨h1,by omega,by omega,by omega⟩,⟨h1,by omega,code_agg ds,hd2⟩,⟨h1,by omega,by omega,by omega⟩,?_⟩
             refine loop2P [] [0,4,5,8,37,38] [0,1,2,3] (fun i:CpI=>⟨[(0,.ref 0 0 0),(4,.ref 2 0 0),(5,.ref 3 0 0),(8,.int .i64 (back:Int)),(37,.int .i64 (n:Int)),(38,.int .i64 (i.i:Int))],[.cells t [(1,.sl k (Bs b)),(1,.int .i64 (p4:Int)),(1,.own 1 (vr+i.i)),(1,.int .i64 (mo:Int))],.row 5 1 (vr+i.i) (Bs i.out),.cells 128 [(16,.blob (cntV ls)),(1,.sl 1 ((sgs ls).map iV))],.cells 128 [(16,.blob (cntV ds)),(1,.sl 1 ((sgs ds).map iV))]]⟩) (fun i=>i.i≤n∧copyE mo back (n - i.i) i.out=.ok o2∧i.out.length=o1.length+i.i) (fun i=>n - i.i) ⟨0,o1⟩ (by rfl) ⟨Nat.zero_le _,ho2,rfl⟩ ⟨rfl,by rfl⟩ (fun i hi R2 hR2=>?_)
             obtain ⟨i,o3⟩:=i
             obtain ⟨j1,j2,j3⟩:=hi
             simp only at j1 j2 j3
             by_cases hin:i<n
             ·have c5:decide ((i:Int)<(n:Int))=true:=decide_eq_true (by omega)
              rw [show n - i=(n - (i+1))+1 by omega,copyE_succ] at j2
              split at j2
              ·cases j2
              ·rename_i o4 ho4
               have hln:=put_len ho4
               have e6:((o3.length:Int) - (back:Int)).toNat=o3.length - back:=by omega
               have hu:=(o3.getD (o3.length - back) 0).toNat_lt
               simp only [b_isigns_0,iputS,c5,e6,UInt8.ofNat_toNat,unB_Bs,Bs_len,Int.toNat_natCast,ho4,go_sem,reduceDiv,reduceMod,↓reduceIte,reduceEqDiff,Nat.reduceBEq,reduceSub,Nat.reduceLT,reduceAdd,reduceLeDiff,reduceCtorEq,Int.reduceEq,Int.reduceNe,Int.reduceLT,Int.reduceLE,Int.reduceToNat]
               refine ⟨by (first | omega | (simp only [lenOk,bytesOk,inI,IntKind.bits,List.length_append,Bs_len,List.length_cons,List.length_nil,List.length_map,List.length_take,List.length_drop,List.length_replicate]; omega)),by omega,by omega,⟨⟨by rw [unB_Bs],rfl,h4,h5⟩,by omega,by omega⟩,by (first | omega | (simp only [lenOk,bytesOk,inI,IntKind.bits,List.length_append,Bs_len,List.length_cons,List.length_nil,List.length_map,List.length_take,List.length_drop,List.length_replicate]; omega)),hR2 _ ⟨i+1,o4⟩ ⟨by simp only; omega,j2,by simp only; rw [hln.1,List.length_append]; simp; omega⟩ (by simp only; omega) rfl⟩
             ·have c5:decide ((i:Int)<(n:Int))=false:=decide_eq_false (by omega)
              obtain rfl:i=n:=by omega
              rw [Nat.sub_self] at j2
              injection j2 with j2; subst j2
              simp only [b_isigns_0,c5,go_sem,reduceDiv,reduceMod,↓reduceIte,reduceEqDiff,Nat.reduceBEq,reduceSub,Nat.reduceLT,reduceAdd,reduceLeDiff,reduceCtorEq,Int.reduceEq,Int.reduceNe,Int.reduceLT,Int.reduceLE,Int.reduceToNat]
              refine hR _ ⟨f,p4,o3,vr+i⟩ ⟨by simp only; omega,i1,by simp only; omega,by simp only; omega⟩ (by simp only; omega) rfl
  ·cases hs
 ·cases hs
set_option maxHeartbeats 2000000 in
set_option maxRecDepth 8000 in
theorem isigns_px:FnPX Tryd.prog 72 isignsX:=by
 refine fn_slimX Tryd.func72 s_isigns phSg_ok phSg_px ?_
 intro xs hp x0 p0 hs hp'
 unfold isignsX at hs
 split at hs
 ·rename_i cs sg cd sd t k ps a v m rv ys
  split at hs
  ·cases hs
  ·rename_i e hb
   injection hs with hs; injection hs with e1 e2; subst e1 e2
   obtain ⟨h1,h2,h2',⟨h3,rfl,h4,h5⟩,h6,hc,hd⟩:=hp'
   obtain ⟨ls,rfl,rfl,hl1,hl2,hl3⟩:=codeOk_of hc
   obtain ⟨ds,rfl,rfl,hd1,hd2,hd3⟩:=codeOk_of hd
   rw [hl3,hd3] at hb
   obtain ⟨p,rfl⟩:∃ p:Nat,a=p:=⟨a.toNat,by omega⟩
   obtain ⟨mo,rfl⟩:∃ p:Nat,m=p:=⟨m.toNat,by omega⟩
   generalize unB ys=out at *
   subst h3
   have hps:=h1.1
   generalize unB ps=b at *
   subst hps
   have hl:=inp_len h1
   rw [Int.toNat_natCast,Int.toNat_natCast] at hb
   refine ⟨len_le (by kernel_rfl),?_⟩
   simp only [c_isigns,go_sem,reduceDiv,reduceMod,↓reduceIte,reduceEqDiff,Nat.reduceBEq,reduceSub,Nat.reduceLT,reduceAdd,reduceLeDiff,reduceCtorEq,Int.reduceEq,Int.reduceNe,Int.reduceLT,Int.reduceLE,Int.reduceToNat]
   refine loop3P [] [0,4,5] [0,1,2,3] (fun i:SsI=>⟨[(0,.ref 0 0 0),(4,.ref 2 0 0),(5,.ref 3 0 0)],[.cells t [(1,.sl k (Bs b)),(1,.int .i64 (i.p:Int)),(1,.own 1 i.vr),(1,.int .i64 (mo:Int))],.row 5 1 i.vr (Bs i.out),.cells 128 [(16,.blob (cntV ls)),(1,.sl 1 ((sgs ls).map iV))],.cells 128 [(16,.blob (cntV ds)),(1,.sl 1 ((sgs ds).map iV))]]⟩) (fun i=>i.p≤8 * b.length∧8 * b.length+1≤i.p+i.f∧signsE ls ds (bitsOf b) mo i.f i.p i.out=.error e∧i.out.length≤100000000) (fun i=>i.f) ⟨(bitsOf b).length+1,p,out,v⟩ (by rfl) ⟨by simp only; omega,by simp only; rw [bitsOf_length]; omega,hb,h6⟩ ⟨rfl,by rfl⟩ (fun i hi R hR=>?_)
   obtain ⟨f,p,o1,vr⟩:=i
   obtain ⟨i0,i3,i1,i2⟩:=hi
   simp only at i0 i1 i2 i3
   cases f with
   | zero=>omega
   | succ f =>
    rw [signsE_succ] at i1
    unfold signK at i1
    split at i1
    ·rename_i e' hs1
     injection i1 with i1; subst i1
     simp only [b_isigns_1,isignS,isignX,wrongV,sign_agg,unB_Bs,Int.toNat_natCast,hs1,go_sem,reduceDiv,reduceMod,↓reduceIte,reduceEqDiff,Nat.reduceBEq,reduceSub,Nat.reduceLT,reduceAdd,reduceLeDiff,reduceCtorEq,Int.reduceEq,Int.reduceNe,Int.reduceLT,Int.reduceLE,Int.reduceToNat]
     exact ⟨h1,by omega,by omega,code_agg ls,by rw [sgs_len]; omega⟩
    ·rename_i s p1 hs1
     obtain ⟨s1,s2,s3⟩:=signE_pos (by omega) hl1 hs1
     rw [bitsOf_length] at s2
     have hcl:inpOk k (Bs b)∧0≤(p:Int)∧AV.agg [(16,AV.blob (cntV ls)),(1,AV.sl 1 (List.map iV (sgs ls)))]=codeV (lsOf (AV.agg [(16,AV.blob (cntV ls)),(1,AV.sl 1 (List.map iV (sgs ls)))]))∧totL ls 15≤1000:=⟨h1,by omega,code_agg ls,hl2⟩
     split at i1
     ·rename_i hs256
      have c1:decide ((s:Int)<256)=true:=decide_eq_true (by omega)
      have hw:IntKind.u8.wrap (s:Int)=(s:Int):=by rw [IntKind.wrap_u8']; omega
      split at i1
      ·rename_i e' ho2
       injection i1 with i1; subst i1
       simp only [b_isigns_1,isignS,isignX,iputS,iputX,wrongV,sign_agg,unB_Bs,Int.toNat_natCast,sgs_len,hs1,ho2,c1,hw,go_sem,reduceDiv,reduceMod,↓reduceIte,reduceEqDiff,Nat.reduceBEq,reduceSub,Nat.reduceLT,reduceAdd,reduceLeDiff,reduceCtorEq,Int.reduceEq,Int.reduceNe,Int.reduceLT,Int.reduceLE,Int.reduceToNat]
       refine ⟨hcl,⟨by rw [unB_Bs],rfl,h4,h5⟩,by omega⟩
      ·rename_i o2 ho2
       have hln:=put_len ho2
       simp only [b_isigns_1,isignS,isignX,iputS,iputX,sign_agg,unB_Bs,Int.toNat_natCast,sgs_len,hs1,ho2,c1,hw,go_sem,reduceDiv,reduceMod,↓reduceIte,reduceEqDiff,Nat.reduceBEq,reduceSub,Nat.reduceLT,reduceAdd,reduceLeDiff,reduceCtorEq,Int.reduceEq,Int.reduceNe,Int.reduceLT,Int.reduceLE,Int.reduceToNat]
       refine ⟨hcl,⟨⟨by rw [unB_Bs],rfl,h4,h5⟩,by omega,by omega⟩,hR _ ⟨f,p1,o2,vr+1⟩ ⟨by simp only; omega,by simp only; omega,i1,by simp only; rw [hln.1,List.length_append]; simp; omega⟩ (by simp only; omega) rfl⟩
     ·rename_i hs256
      have c1:decide ((s:Int)<256)=false:=decide_eq_false (by omega)
      split at i1
      ·cases i1
      ·rename_i hne
       have c2:decide ((s:Int)=256)=false:=decide_eq_false (by omega)
       have hli:lenIn (s:Int):=⟨by omega,by omega⟩
       split at i1
       ·rename_i e' hl2'
        injection i1 with i1; subst i1
        simp only [b_isigns_1,isignS,isignX,ilenS,ilenX,lenD_eq,wrongV,sign_agg,unB_Bs,Bs_len,Int.toNat_natCast,sgs_len,hs1,hl2',c1,c2,go_sem,reduceDiv,reduceMod,↓reduceIte,reduceEqDiff,Nat.reduceBEq,reduceSub,Nat.reduceLT,reduceAdd,reduceLeDiff,reduceCtorEq,Int.reduceEq,Int.reduceNe,Int.reduceLT,Int.reduceLE,Int.reduceToNat]
        exact ⟨hcl,h1,by omega,by omega,hli⟩
       ·rename_i n p2 hl2'
        have hp2:=lenE_pos hl2' (by rw [bitsOf_length]; omega)
        rw [bitsOf_length] at hp2
        split at i1
        ·rename_i htd
         injection i1 with i1; subst i1
         have c3:decide ((totL ds 15:Int)=0)=true:=decide_eq_true (by omega)
         simp only [b_isigns_1,isignS,isignX,ilenS,ilenX,ifailX,lenD_eq,wrongV,sign_agg,unB_Bs,Bs_len,Int.toNat_natCast,sgs_len,hs1,hl2',c1,c2,c3,go_sem,reduceDiv,reduceMod,↓reduceIte,reduceEqDiff,Nat.reduceBEq,reduceSub,Nat.reduceLT,reduceAdd,reduceLeDiff,reduceCtorEq,Int.reduceEq,Int.reduceNe,Int.reduceLT,Int.reduceLE,Int.reduceToNat]
         exact ⟨hcl,h1,by omega,hli⟩
        ·rename_i htd
         have c3:decide ((totL ds 15:Int)=0)=false:=decide_eq_false (by omega)
         split at i1
         ·rename_i e' hd3'
          injection i1 with i1; subst i1
          simp only [b_isigns_1,isignS,isignX,ilenS,ilenX,lenD_eq,wrongV,sign_agg,unB_Bs,Bs_len,Int.toNat_natCast,sgs_len,hs1,hl2',hd3',c1,c2,c3,go_sem,reduceDiv,reduceMod,↓reduceIte,reduceEqDiff,Nat.reduceBEq,reduceSub,Nat.reduceLT,reduceAdd,reduceLeDiff,reduceCtorEq,Int.reduceEq,Int.reduceNe,Int.reduceLT,Int.reduceLE,Int.reduceToNat]
          exact ⟨hcl,⟨h1,by omega,hli⟩,h1,by omega,by omega,code_agg ds,hd2⟩
         ·rename_i d p3 hd3'
          obtain ⟨d1,d2,d3⟩:=signE_pos (by omega) hd1 hd3'
          rw [bitsOf_length] at d2
          split at i1
          ·rename_i e' hd4
           injection i1 with i1; subst i1
           simp only [b_isigns_1,isignS,isignX,ilenS,ilenX,idistS,idistX,lenD_eq,wrongV,sign_agg,unB_Bs,Bs_len,Int.toNat_natCast,sgs_len,hs1,hl2',hd3',hd4,c1,c2,c3,go_sem,reduceDiv,reduceMod,↓reduceIte,reduceEqDiff,Nat.reduceBEq,reduceSub,Nat.reduceLT,reduceAdd,reduceLeDiff,reduceCtorEq,Int.reduceEq,Int.reduceNe,Int.reduceLT,Int.reduceLE,Int.reduceToNat]
           exact ⟨hcl,⟨h1,by omega,hli⟩,⟨h1,by omega,code_agg ds,hd2⟩,h1,by omega,by omega,by omega,by omega⟩
          ·rename_i back p4 hd4
           have hp4:=distE_pos hd4 (by rw [bitsOf_length]; omega)
           rw [bitsOf_length] at hp4
           split at i1
           ·rename_i hbk
            injection i1 with i1; subst i1
            have c4:decide ((o1.length:Int)<(back:Int))=true:=decide_eq_true (by omega)
            simp only [b_isigns_1,isignS,isignX,ilenS,ilenX,idistS,idistX,ifailX,lenD_eq,wrongV,sign_agg,unB_Bs,Bs_len,Int.toNat_natCast,sgs_len,hs1,hl2',hd3',hd4,c1,c2,c3,c4,go_sem,reduceDiv,reduceMod,↓reduceIte,reduceEqDiff,Nat.reduceBEq,reduceSub,Nat.reduceLT,reduceAdd,reduceLeDiff,reduceCtorEq,Int.reduceEq,Int.reduceNe,Int.reduceLT,Int.reduceLE,Int.reduceToNat]
            exact ⟨hcl,⟨h1,by omega,hli⟩,⟨h1,by omega,code_agg ds,hd2⟩,h1,by omega,by omega,by omega⟩
           ·rename_i hbk
            have c4:decide ((o1.length:Int)<(back:Int))=false:=decide_eq_false (by omega)
            simp only [b_isigns_1,isignS,isignX,ilenS,ilenX,idistS,idistX,lenD_eq,sign_agg,unB_Bs,Bs_len,Int.toNat_natCast,sgs_len,hs1,hl2',hd3',hd4,c1,c2,c3,c4,go_sem,reduceDiv,reduceMod,↓reduceIte,reduceEqDiff,Nat.reduceBEq,reduceSub,Nat.reduceLT,reduceAdd,reduceLeDiff,reduceCtorEq,Int.reduceEq,Int.reduceNe,Int.reduceLT,Int.reduceLE,Int.reduceToNat]
            refine ⟨hcl,⟨h1,by omega,hli⟩,⟨h1,by omega,code_agg ds,hd2⟩,⟨h1,by omega,by omega,by omega⟩,?_⟩
            refine loop3P [] [0,4,5,8,37,38] [0,1,2,3] (fun i:CpI=>⟨[(0,.ref 0 0 0),(4,.ref 2 0 0),(5,.ref 3 0 0),(8,.int .i64 (back:Int)),(37,.int .i64 (n:Int)),(38,.int .i64 (i.i:Int))],[.cells t [(1,.sl k (Bs b)),(1,.int .i64 (p4:Int)),(1,.own 1 (vr+i.i)),(1,.int .i64 (mo:Int))],.row 5 1 (vr+i.i) (Bs i.out),.cells 128 [(16,.blob (cntV ls)),(1,.sl 1 ((sgs ls).map iV))],.cells 128 [(16,.blob (cntV ds)),(1,.sl 1 ((sgs ds).map iV))]]⟩) (fun i=>i.i≤n∧(match copyE mo back (n - i.i) i.out with
             | .error e=>(.error e:RdE (List UInt8))
             | .ok o=>signsE ls ds (bitsOf b) mo f p4 o)=.error e∧i.out.length=o1.length+i.i∧i.out.length≤100000000) (fun i=>n - i.i) ⟨0,o1⟩ (by rfl) ⟨Nat.zero_le _,i1,rfl,i2⟩ ⟨rfl,by rfl⟩ (fun i hi R2 hR2=>?_)
            obtain ⟨i,o3⟩:=i
            obtain ⟨j1,j2,j3,j4⟩:=hi
            simp only at j1 j2 j3 j4
            by_cases hin:i<n
            ·have c5:decide ((i:Int)<(n:Int))=true:=decide_eq_true (by omega)
             rw [show n - i=(n - (i+1))+1 by omega,copyE_succ] at j2
             have e6:((o3.length:Int) - (back:Int)).toNat=o3.length - back:=by omega
             have hu:=(o3.getD (o3.length - back) 0).toNat_lt
             split at j2
             ·rename_i e' hj2
              split at hj2
              ·rename_i e'' ho4
               injection hj2 with hj2; subst hj2
               injection j2 with j2; subst j2
               simp only [b_isigns_0,iputS,iputX,wrongV,c5,e6,UInt8.ofNat_toNat,unB_Bs,Bs_len,Int.toNat_natCast,ho4,go_sem,reduceDiv,reduceMod,↓reduceIte,reduceEqDiff,Nat.reduceBEq,reduceSub,Nat.reduceLT,reduceAdd,reduceLeDiff,reduceCtorEq,Int.reduceEq,Int.reduceNe,Int.reduceLT,Int.reduceLE,Int.reduceToNat]
               refine ⟨by (first | omega | (simp only [lenOk,bytesOk,inI,IntKind.bits,List.length_append,Bs_len,List.length_cons,List.length_nil,List.length_map,List.length_take,List.length_drop,List.length_replicate]; omega)),by omega,by omega,⟨by rw [unB_Bs],rfl,h4,h5⟩,by omega⟩
              ·rename_i o4 ho4
               have hln:=put_len ho4
               simp only [b_isigns_0,iputS,iputX,c5,e6,UInt8.ofNat_toNat,unB_Bs,Bs_len,Int.toNat_natCast,ho4,go_sem,reduceDiv,reduceMod,↓reduceIte,reduceEqDiff,Nat.reduceBEq,reduceSub,Nat.reduceLT,reduceAdd,reduceLeDiff,reduceCtorEq,Int.reduceEq,Int.reduceNe,Int.reduceLT,Int.reduceLE,Int.reduceToNat]
               refine ⟨by (first | omega | (simp only [lenOk,bytesOk,inI,IntKind.bits,List.length_append,Bs_len,List.length_cons,List.length_nil,List.length_map,List.length_take,List.length_drop,List.length_replicate]; omega)),by omega,by omega,⟨⟨by rw [unB_Bs],rfl,h4,h5⟩,by omega,by omega⟩,by (first | omega | (simp only [lenOk,bytesOk,inI,IntKind.bits,List.length_append,Bs_len,List.length_cons,List.length_nil,List.length_map,List.length_take,List.length_drop,List.length_replicate]; omega)),hR2 _ ⟨i+1,o4⟩ ⟨by simp only; omega,by simp only; rw [hj2]; exact j2,by simp only; rw [hln.1,List.length_append]; simp; omega,by simp only; rw [hln.1,List.length_append]; simp; omega⟩ (by simp only; omega) rfl⟩
             ·rename_i o4 hj2
              split at hj2
              ·cases hj2
              ·rename_i o5 ho4
               have hln:=put_len ho4
               simp only [b_isigns_0,iputS,iputX,c5,e6,UInt8.ofNat_toNat,unB_Bs,Bs_len,Int.toNat_natCast,ho4,go_sem,reduceDiv,reduceMod,↓reduceIte,reduceEqDiff,Nat.reduceBEq,reduceSub,Nat.reduceLT,reduceAdd,reduceLeDiff,reduceCtorEq,Int.reduceEq,Int.reduceNe,Int.reduceLT,Int.reduceLE,Int.reduceToNat]
               refine ⟨by (first | omega | (simp only [lenOk,bytesOk,inI,IntKind.bits,List.length_append,Bs_len,List.length_cons,List.length_nil,List.length_map,List.length_take,List.length_drop,List.length_replicate]; omega)),by omega,by omega,⟨⟨by rw [unB_Bs],rfl,h4,h5⟩,by omega,by omega⟩,by (first | omega | (simp only [lenOk,bytesOk,inI,IntKind.bits,List.length_append,Bs_len,List.length_cons,List.length_nil,List.length_map,List.length_take,List.length_drop,List.length_replicate]; omega)),hR2 _ ⟨i+1,o5⟩ ⟨by simp only; omega,by simp only; rw [hj2]; exact j2,by simp only; rw [hln.1,List.length_append]; simp; omega,by simp only; rw [hln.1,List.length_append]; simp; omega⟩ (by simp only; omega) rfl⟩
            ·have c5:decide ((i:Int)<(n:Int))=false:=decide_eq_false (by omega)
             obtain rfl:i=n:=by omega
             rw [Nat.sub_self] at j2
             simp only [copyE] at j2
             simp only [b_isigns_0,c5,go_sem,reduceDiv,reduceMod,↓reduceIte,reduceEqDiff,Nat.reduceBEq,reduceSub,Nat.reduceLT,reduceAdd,reduceLeDiff,reduceCtorEq,Int.reduceEq,Int.reduceNe,Int.reduceLT,Int.reduceLE,Int.reduceToNat]
             refine hR _ ⟨f,p4,o3,vr+i⟩ ⟨by simp only; omega,by simp only; omega,j2,j4⟩ (by simp only; omega) rfl
 ·cases hs
end Go.Proofs.YtakolikdebfkeaaDoor
