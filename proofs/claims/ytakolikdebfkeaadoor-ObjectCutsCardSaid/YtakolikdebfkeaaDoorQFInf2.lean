import Derived.Test.YtakolikdebfkeaaDoorQInfCode
import Derived.Test.YtakolikdebfkeaaDoorQFDfl7
open Nat (reduceDiv reduceMod reduceSub reduceAdd reduceLeDiff reduceEqDiff)
set_option linter.all false
namespace Go.Proofs.YtakolikdebfkeaaDoor
open Go.RowKit
theorem phNum_ok:PhiOk Tryd.prog (phiL [(70,[],inumS)]):=phi_cons inum_ok (by kernel_rfl) phi_nil
theorem phNum_px:PhXOk Tryd.prog (phXL [(70,[],inumX),(75,[],ifailX)]):=phXL_cons inum_px (by kernel_rfl) (phXL_cons ifail_ok (by kernel_rfl) phXL_nil)
def ibelS:Spec:=fun xs hp=>match xs,hp with
 | [.ref 0 0 0,.int .i64 n,.int .i64 mo],[.cells t [(1,.sl k ps),(1,.int .i64 a),(1,.own 1 v),(1,.int .i64 m)],.row et es rv ys]=>match belowE (bitsOf (unB ps)) a.toNat n.toNat mo.toNat with
  | .ok (x,q)=>some ⟨.int .i64 (x:Int),[.cells t [(1,.sl k ps),(1,.int .i64 (q:Int)),(1,.own 1 v),(1,.int .i64 m)],.row et es rv ys],inpOk k ps∧0≤a∧0≤n∧n<40∧0≤mo⟩
  | .error _=>none
 | _,_=>none
def ibelX:XSpec:=fun xs hp=>match xs,hp with
 | [.ref 0 0 0,.int .i64 n,.int .i64 mo],[.cells t [(1,.sl k ps),(1,.int .i64 a),(1,.own 1 v),(1,.int .i64 m)],.row et es rv ys]=>match belowE (bitsOf (unB ps)) a.toNat n.toNat mo.toNat with
  | .ok _=>none
  | .error e=>some (wrongV e,inpOk k ps∧0≤a∧a≤8 * ((unB ps).length:Int)∧0≤n∧n<40∧0≤mo)
 | _,_=>none
def outOk (v rv:Nat) (ys:List AV) (m:Int):Prop:=ys=Bs (unB ys)∧v=rv∧0≤m∧m≤100000000
def iputS:Spec:=fun xs hp=>match xs,hp with
 | [.ref 0 0 0,.int .u8 c],[.cells t [(1,.sl k ps),(1,.int .i64 a),(1,.own 1 v),(1,.int .i64 m)],.row 5 1 rv ys]=>match putE m.toNat (unB ys) (UInt8.ofNat c.toNat) with
  | .ok o=>some ⟨.tup [],[.cells t [(1,.sl k ps),(1,.int .i64 a),(1,.own 1 (v+1)),(1,.int .i64 m)],.row 5 1 (v+1) (Bs o)],outOk v rv ys m∧0≤c∧c<256⟩
  | .error _=>none
 | _,_=>none
def iputX:XSpec:=fun xs hp=>match xs,hp with
 | [.ref 0 0 0,.int .u8 c],[.cells t [(1,.sl k ps),(1,.int .i64 a),(1,.own 1 v),(1,.int .i64 m)],.row 5 1 rv ys]=>match putE m.toNat (unB ys) (UInt8.ofNat c.toNat) with
  | .ok _=>none
  | .error e=>some (wrongV e,outOk v rv ys m∧(unB ys).length≤1000000000)
 | _,_=>none
theorem byte_B (c:Nat) (h:c<256):[AV.int IntKind.u8 (c:Int)]=Bs [UInt8.ofNat c]:=by
 have e:(UInt8.ofNat c).toNat=c:=by rw [UInt8.toNat_ofNat']; omega
 show _=[AV.int .u8 ((UInt8.ofNat c).toNat:Int)]
 rw [e]
theorem iput_ok:FnOk Tryd.prog 96 iputS:=by
 refine fn_slim2 Tryd.func96 s_iput (Φ:=phiL []) phi_nil ?_
 intro xs hp r hs hp'
 unfold iputS at hs
 split at hs
 ·rename_i c t k ps a v m rv ys
  split at hs
  ·rename_i o hb
   injection hs with hs; subst hs
   obtain ⟨⟨h1,rfl,h3,h4⟩,h5,h6⟩:=hp'
   obtain ⟨mo,rfl⟩:∃ p:Nat,m=p:=⟨m.toNat,by omega⟩
   obtain ⟨c,rfl⟩:∃ p:Nat,c=p:=⟨c.toNat,by omega⟩
   generalize unB ys=out at *
   subst h1
   unfold putE at hb
   rw [Int.toNat_natCast,Int.toNat_natCast] at hb
   refine ⟨len_le (by kernel_rfl),?_⟩
   split at hb
   ·cases hb
   ·rename_i hlt
    injection hb with hb; subst hb
    have c1:decide ((mo:Int)≤(out.length:Int))=false:=decide_eq_false (by omega)
    simp only [c_iput,r_iput,c1,Bs_len,byte_B c (by omega),← Bs_append,go_sem,reduceDiv,reduceMod,↓reduceIte,reduceEqDiff,Nat.reduceBEq,reduceSub,Nat.reduceLT,reduceAdd,reduceLeDiff,reduceCtorEq,Int.reduceEq,Int.reduceNe,Int.reduceLT,Int.reduceLE,Int.reduceToNat]
    constructor <;> (first | omega | (simp only [lenOk,bytesOk,inI,IntKind.bits,List.length_append,Bs_len,List.length_cons,List.length_nil,List.length_map,List.length_take,List.length_drop,List.length_replicate]; omega))
  ·cases hs
 ·cases hs
theorem iput_px:FnPX Tryd.prog 96 iputX:=by
 refine fn_slimX (ΦX:=phXL [(75,[],ifailX)]) Tryd.func96 s_iput (Φ:=phiL []) phi_nil (phXL_cons ifail_ok (by kernel_rfl) phXL_nil) ?_
 intro xs hp x0 p0 hs hp'
 unfold iputX at hs
 split at hs
 ·rename_i c t k ps a v m rv ys
  split at hs
  ·cases hs
  ·rename_i e hb
   injection hs with hs; injection hs with e1 e2; subst e1 e2
   obtain ⟨⟨h1,rfl,h3,h4⟩,h5⟩:=hp'
   obtain ⟨mo,rfl⟩:∃ p:Nat,m=p:=⟨m.toNat,by omega⟩
   generalize unB ys=out at *
   subst h1
   unfold putE at hb
   rw [Int.toNat_natCast] at hb
   refine ⟨len_le (by kernel_rfl),?_⟩
   split at hb
   ·rename_i hlt
    injection hb with hb; subst hb
    have c1:decide ((mo:Int)≤(out.length:Int))=true:=decide_eq_true (by omega)
    simp only [c_iput,r_iput,ifailX,wrongV,c1,Bs_len,go_sem,reduceDiv,reduceMod,↓reduceIte,reduceEqDiff,Nat.reduceBEq,reduceSub,Nat.reduceLT,reduceAdd,reduceLeDiff,reduceCtorEq,Int.reduceEq,Int.reduceNe,Int.reduceLT,Int.reduceLE,Int.reduceToNat]
   ·cases hb
 ·cases hs
theorem join1 (n b:Nat) (hn:n<1099511627776) (hb:b<2):bits .or .i64 ((n:Int) * 2 ^ 1) (b:Int)=((2 * n+b:Nat):Int):=by
 have e1:(n:Int) * 2 ^ 1=((2 * n:Nat):Int):=by omega
 rw [e1,i64_or _ _ (by omega) (by omega),nat_join 1 (2 * n) b (by simp) (by omega)]
noncomputable def isignS:Spec:=fun xs hp=>match xs,hp with
 | [.ref 0 0 0,.agg [(16,.blob cs),(1,.sl 1 sg)]],[.cells t [(1,.sl k ps),(1,.int .i64 a),(1,.own 1 v),(1,.int .i64 m)],.row et es rv ys]=>match signE (lsOf (.agg [(16,.blob cs),(1,.sl 1 sg)])) (bitsOf (unB ps)) a.toNat with
  | .ok (x,q)=>some ⟨.int .i64 (x:Int),[.cells t [(1,.sl k ps),(1,.int .i64 (q:Int)),(1,.own 1 v),(1,.int .i64 m)],.row et es rv ys],inpOk k ps∧0≤a∧.agg [(16,.blob cs),(1,.sl 1 sg)]=codeV (lsOf (.agg [(16,.blob cs),(1,.sl 1 sg)]))∧sg.length≤1000⟩
  | .error _=>none
 | _,_=>none
noncomputable def isignX:XSpec:=fun xs hp=>match xs,hp with
 | [.ref 0 0 0,.agg [(16,.blob cs),(1,.sl 1 sg)]],[.cells t [(1,.sl k ps),(1,.int .i64 a),(1,.own 1 v),(1,.int .i64 m)],.row et es rv ys]=>match signE (lsOf (.agg [(16,.blob cs),(1,.sl 1 sg)])) (bitsOf (unB ps)) a.toNat with
  | .ok _=>none
  | .error e=>some (wrongV e,inpOk k ps∧0≤a∧a≤8 * ((unB ps).length:Int)∧.agg [(16,.blob cs),(1,.sl 1 sg)]=codeV (lsOf (.agg [(16,.blob cs),(1,.sl 1 sg)]))∧sg.length≤1000)
 | _,_=>none
theorem bit_cases (b:List UInt8) (p:Nat):(∃ x,x<2∧bitE (bitsOf b) p=.ok (x,p+1)∧p<8 * b.length)∨(bitE (bitsOf b) p=.error 3∧8 * b.length≤p):=by
 rcases Nat.lt_or_ge p (8 * b.length) with h | h
 ·exact .inl ⟨_,Nat.mod_lt _ (by omega),bitE_lt h,h⟩
 ·exact .inr ⟨bitE_ge h,h⟩
theorem sgs_at (ls:List Nat) {l r:Nat} (hl:l<15) (hr:r<cntL ls (l+1)):((sgs ls).map iV).getD (totL ls l+r) (.int .i64 0)=.int .i64 (((idxs ls (l+1)).getD r 0:Nat):Int):=by
 have h:=sgs_get ls hl hr
 rw [List.getD_eq_getElem?_getD,List.getElem?_map,h,List.getD_eq_getElem?_getD]
 have:r<(idxs ls (l+1)).length:=by rw [idxs_length]; exact hr
 rw [List.getElem?_eq_getElem this]; rfl
structure SgI where
 j:Nat
 n:Nat
theorem isign_ok:FnOk Tryd.prog 97 isignS:=by
 refine fn_slim2 Tryd.func97 s_isign (Φ:=phiL [(69,[],ibitS)]) (phi_cons ibit_ok (by kernel_rfl) phi_nil) ?_
 intro xs hp r hs hp'
 unfold isignS at hs
 split at hs
 ·rename_i cs sg t k ps a v m et es rv ys
  split at hs
  ·rename_i x q hb
   injection hs with hs; subst hs
   obtain ⟨h1,h2,h3,h4⟩:=hp'
   obtain ⟨p,rfl⟩:∃ p:Nat,a=p:=⟨a.toNat,by omega⟩
   have hps:=h1.1
   generalize unB ps=b at *
   subst hps
   have hl:=inp_len h1
   rw [Int.toNat_natCast] at hb
   generalize lsOf (.agg [(16,.blob cs),(1,.sl 1 sg)])=ls at *
   unfold codeV at h3
   simp only [AV.agg.injEq,List.cons.injEq,Prod.mk.injEq,true_and,AV.blob.injEq,AV.sl.injEq,and_true] at h3
   obtain ⟨rfl,rfl⟩:=h3
   rw [List.length_map,sgs_len] at h4
   have hp0:p≤8 * b.length:=by
    rcases bit_cases b p with ⟨_,_,_,h⟩ | ⟨h,_⟩
    ·omega
    ·unfold signE signGo at hb; rw [h] at hb; cases hb
   refine ⟨len_le (by kernel_rfl),?_⟩
   simp only [c_isign,cntV_len,go_sem,reduceDiv,reduceMod,↓reduceIte,reduceEqDiff,Nat.reduceBEq,reduceSub,Nat.reduceLT,reduceAdd,reduceLeDiff,reduceCtorEq,Int.reduceEq,Int.reduceNe,Int.reduceLT,Int.reduceLE,Int.reduceToNat]
   refine loop2P [] [0,3,5,6,7,8] [0,1,2] (fun i:SgI=>⟨[(0,.ref 0 0 0),(3,.ref 2 0 0),(5,.int .i64 (i.n:Int)),(6,.int .i64 (krL ls i.j:Int)),(7,.int .i64 (totL ls i.j:Int)),(8,.int .i64 ((i.j+1:Nat):Int))],[.cells t [(1,.sl k (Bs b)),(1,.int .i64 ((p+i.j:Nat):Int)),(1,.own 1 v),(1,.int .i64 m)],.row et es rv ys,.cells 128 [(16,.blob (cntV ls)),(1,.sl 1 ((sgs ls).map iV))]]⟩) (fun i:SgI=>i.j≤15∧i.n<2 ^ i.j∧krL ls i.j≤i.n∧p+i.j≤8 * b.length∧signE ls (bitsOf b) p=signGo ls (bitsOf b) (15 - i.j) i.j i.n (p+i.j)) (fun i=>15 - i.j) ⟨0,0⟩ (by rfl) ⟨Nat.zero_le _,by decide,Nat.zero_le _,hp0,rfl⟩ ⟨rfl,by rfl⟩ (fun i hi R hR=>?_)
   obtain ⟨j,n⟩:=i
   obtain ⟨i1,i2,i3,i4,i5⟩:=hi
   simp only at i1 i2 i3 i4 i5
   rw [hb] at i5
   by_cases hj:j<15
   ·have c1:decide (((j+1:Nat):Int)<16)=true:=decide_eq_true (by omega)
    rcases bit_cases b (p+j) with ⟨y,hy,hbit,hlt⟩ | ⟨hbit,_⟩
    ·have h2j:(2:Nat) ^ j≤2 ^ 15:=Nat.pow_le_pow_right (by omega) (by omega)
     have hjo:=join1 n y (by omega) hy
     have hcn:=cntV_get ls (l:=j+1) (by omega) (Value.int .i64 0)
     have hst:signGo ls (bitsOf b) (15 - j) j n (p+j)=(if 2 * n+y<fstL ls (j+1)+cntL ls (j+1) then .ok ((idxs ls (j+1)).getD (2 * n+y - fstL ls (j+1)) 0,p+j+1) else if totL ls (j+1)=totL ls 15 then .error 4 else signGo ls (bitsOf b) (15 - (j+1)) (j+1) (2 * n+y) (p+j+1)):=by
      rw [show 15 - j=(15 - (j+1))+1 by omega,signGo,hbit]
     rw [hst] at i5
     have hf:=fstL_succ ls j
     have ht:totL ls (j+1)=totL ls j+cntL ls (j+1):=rfl
     have e0:cnt0 ls (j+1)=cntL ls (j+1):=if_neg (by omega)
     have e1:(krL ls j:Int) * 2 ^ 1=(fstL ls (j+1):Int):=by omega
     rw [e0] at hcn
     have hkr:krL ls (j+1)=fstL ls (j+1)+cntL ls (j+1):=by unfold krL; rw [if_neg (by omega)]
     by_cases hc:2 * n+y<fstL ls (j+1)+cntL ls (j+1)
     ·rw [if_pos hc] at i5
      injection i5 with i5; injection i5 with e1 e2; subst e1 e2
      have c2:decide (((2 * n+y:Nat):Int) - (fstL ls (j+1):Int)<(cntL ls (j+1):Int))=true:=decide_eq_true (by omega)
      have e2:(totL ls j:Int)+((2 * n+y:Nat):Int) - (fstL ls (j+1):Int)=((totL ls j+(2 * n+y - fstL ls (j+1)):Nat):Int):=by omega
      have hget:=sgs_at ls (l:=j) (r:=2 * n+y - fstL ls (j+1)) (by omega) (by omega)
      have htot:=tot_mono ls (j+1) (15 - (j+1))
      rw [show j+1+(15 - (j+1))=15 by omega] at htot
      simp only [b_isign_0,r_isign,c1,c2,e1,e2,ibitS,unB_Bs,Int.toNat_natCast,hbit,hjo,hcn,hget,List.length_map,sgs_len,cntV_len,go_sem,reduceDiv,reduceMod,↓reduceIte,reduceEqDiff,Nat.reduceBEq,reduceSub,Nat.reduceLT,reduceAdd,reduceLeDiff,reduceCtorEq,Int.reduceEq,Int.reduceNe,Int.reduceLT,Int.reduceLE,Int.reduceToNat]
      (repeat' apply And.intro)
      all_goals first | exact h1.1 | exact h1.2.1 | exact h1.2.2 | omega | (first | omega | (simp only [lenOk,bytesOk,inI,IntKind.bits,List.length_append,Bs_len,List.length_cons,List.length_nil,List.length_map,List.length_take,List.length_drop,List.length_replicate]; omega))
     ·have c2:decide (((2 * n+y:Nat):Int) - (fstL ls (j+1):Int)<(cntL ls (j+1):Int))=false:=decide_eq_false (by omega)
      rw [if_neg hc] at i5
      by_cases ht15:totL ls (j+1)=totL ls 15
      ·rw [if_pos ht15] at i5; cases i5
      ·rw [if_neg ht15] at i5
       have c3:decide ((totL ls j:Int)+(cntL ls (j+1):Int)=(totL ls 15:Int))=false:=decide_eq_false (by omega)
       have e3:(totL ls j:Int)+(cntL ls (j+1):Int)=(totL ls (j+1):Int):=by omega
       have e4:(fstL ls (j+1):Int)+(cntL ls (j+1):Int)=(krL ls (j+1):Int):=by omega
       rw [e3] at c3
       have htot:=tot_mono ls (j+1) (15 - (j+1))
       rw [show j+1+(15 - (j+1))=15 by omega] at htot
       simp only [b_isign_0,r_isign,c1,c2,c3,e1,e3,e4,ibitS,unB_Bs,Int.toNat_natCast,hbit,hjo,hcn,List.length_map,sgs_len,cntV_len,go_sem,reduceDiv,reduceMod,↓reduceIte,reduceEqDiff,Nat.reduceBEq,reduceSub,Nat.reduceLT,reduceAdd,reduceLeDiff,reduceCtorEq,Int.reduceEq,Int.reduceNe,Int.reduceLT,Int.reduceLE,Int.reduceToNat]
       refine ⟨by (first | omega | (simp only [lenOk,bytesOk,inI,IntKind.bits,List.length_append,Bs_len,List.length_cons,List.length_nil,List.length_map,List.length_take,List.length_drop,List.length_replicate]; omega)),⟨h1,by omega⟩,by (first | omega | (simp only [lenOk,bytesOk,inI,IntKind.bits,List.length_append,Bs_len,List.length_cons,List.length_nil,List.length_map,List.length_take,List.length_drop,List.length_replicate]; omega)),by (first | omega | (simp only [lenOk,bytesOk,inI,IntKind.bits,List.length_append,Bs_len,List.length_cons,List.length_nil,List.length_map,List.length_take,List.length_drop,List.length_replicate]; omega)),by omega,by omega,by omega,by omega,by (first | omega | (simp only [lenOk,bytesOk,inI,IntKind.bits,List.length_append,Bs_len,List.length_cons,List.length_nil,List.length_map,List.length_take,List.length_drop,List.length_replicate]; omega)),by omega,by omega,by (first | omega | (simp only [lenOk,bytesOk,inI,IntKind.bits,List.length_append,Bs_len,List.length_cons,List.length_nil,List.length_map,List.length_take,List.length_drop,List.length_replicate]; omega)),by (first | omega | (simp only [lenOk,bytesOk,inI,IntKind.bits,List.length_append,Bs_len,List.length_cons,List.length_nil,List.length_map,List.length_take,List.length_drop,List.length_replicate]; omega)),hR _ ⟨j+1,2 * n+y⟩ ⟨by simp only; omega,by simp only [Nat.pow_succ]; omega,by simp only; omega,by simp only; omega,by simp only; rw [hb]; exact i5⟩ (by simp only; omega) rfl⟩
    ·rw [show 15 - j=(15 - (j+1))+1 by omega,signGo,hbit] at i5; cases i5
   ·rw [show 15 - j=0 by omega] at i5
    cases i5
  ·cases hs
 ·cases hs
theorem isign_px:FnPX Tryd.prog 97 isignX:=by
 refine fn_slimX (ΦX:=phXL [(69,[],ibitX),(75,[],ifailX)]) Tryd.func97 s_isign (Φ:=phiL [(69,[],ibitS)]) (phi_cons ibit_ok (by kernel_rfl) phi_nil)
  (phXL_cons ibit_px (by kernel_rfl) (phXL_cons ifail_ok (by kernel_rfl) phXL_nil)) ?_
 intro xs hp x0 p0 hs hp'
 unfold isignX at hs
 split at hs
 ·rename_i cs sg t k ps a v m et es rv ys
  split at hs
  ·cases hs
  ·rename_i e hb
   injection hs with hs; injection hs with e1 e2; subst e1 e2
   obtain ⟨h1,h2,hp0,h3,h4⟩:=hp'
   obtain ⟨p,rfl⟩:∃ p:Nat,a=p:=⟨a.toNat,by omega⟩
   have hps:=h1.1
   generalize unB ps=b at *
   subst hps
   have hl:=inp_len h1
   rw [Int.toNat_natCast] at hb
   generalize lsOf (.agg [(16,.blob cs),(1,.sl 1 sg)])=ls at *
   unfold codeV at h3
   simp only [AV.agg.injEq,List.cons.injEq,Prod.mk.injEq,true_and,AV.blob.injEq,AV.sl.injEq,and_true] at h3
   obtain ⟨rfl,rfl⟩:=h3
   rw [List.length_map,sgs_len] at h4
   have hp0:p≤8 * b.length:=by omega
   refine ⟨len_le (by kernel_rfl),?_⟩
   simp only [c_isign,cntV_len,go_sem,reduceDiv,reduceMod,↓reduceIte,reduceEqDiff,Nat.reduceBEq,reduceSub,Nat.reduceLT,reduceAdd,reduceLeDiff,reduceCtorEq,Int.reduceEq,Int.reduceNe,Int.reduceLT,Int.reduceLE,Int.reduceToNat]
   refine loop3P [] [0,3,5,6,7,8] [0,1,2] (fun i:SgI=>⟨[(0,.ref 0 0 0),(3,.ref 2 0 0),(5,.int .i64 (i.n:Int)),(6,.int .i64 (krL ls i.j:Int)),(7,.int .i64 (totL ls i.j:Int)),(8,.int .i64 ((i.j+1:Nat):Int))],[.cells t [(1,.sl k (Bs b)),(1,.int .i64 ((p+i.j:Nat):Int)),(1,.own 1 v),(1,.int .i64 m)],.row et es rv ys,.cells 128 [(16,.blob (cntV ls)),(1,.sl 1 ((sgs ls).map iV))]]⟩) (fun i:SgI=>i.j≤15∧i.n<2 ^ i.j∧krL ls i.j≤i.n∧p+i.j≤8 * b.length∧signE ls (bitsOf b) p=signGo ls (bitsOf b) (15 - i.j) i.j i.n (p+i.j)) (fun i=>15 - i.j) ⟨0,0⟩ (by rfl) ⟨Nat.zero_le _,by decide,Nat.zero_le _,hp0,rfl⟩ ⟨rfl,by rfl⟩ (fun i hi R hR=>?_)
   obtain ⟨j,n⟩:=i
   obtain ⟨i1,i2,i3,i4,i5⟩:=hi
   simp only at i1 i2 i3 i4 i5
   rw [hb] at i5
   by_cases hj:j<15
   ·have c1:decide (((j+1:Nat):Int)<16)=true:=decide_eq_true (by omega)
    rcases bit_cases b (p+j) with ⟨y,hy,hbit,hlt⟩ | ⟨hbit,_⟩
    ·have h2j:(2:Nat) ^ j≤2 ^ 15:=Nat.pow_le_pow_right (by omega) (by omega)
     have hjo:=join1 n y (by omega) hy
     have hcn:=cntV_get ls (l:=j+1) (by omega) (Value.int .i64 0)
     have hst:signGo ls (bitsOf b) (15 - j) j n (p+j)=(if 2 * n+y<fstL ls (j+1)+cntL ls (j+1) then .ok ((idxs ls (j+1)).getD (2 * n+y - fstL ls (j+1)) 0,p+j+1) else if totL ls (j+1)=totL ls 15 then .error 4 else signGo ls (bitsOf b) (15 - (j+1)) (j+1) (2 * n+y) (p+j+1)):=by
      rw [show 15 - j=(15 - (j+1))+1 by omega,signGo,hbit]
     rw [hst] at i5
     have hf:=fstL_succ ls j
     have ht:totL ls (j+1)=totL ls j+cntL ls (j+1):=rfl
     have e0:cnt0 ls (j+1)=cntL ls (j+1):=if_neg (by omega)
     have e1:(krL ls j:Int) * 2 ^ 1=(fstL ls (j+1):Int):=by omega
     rw [e0] at hcn
     have hkr:krL ls (j+1)=fstL ls (j+1)+cntL ls (j+1):=by unfold krL; rw [if_neg (by omega)]
     by_cases hc:2 * n+y<fstL ls (j+1)+cntL ls (j+1)
     ·rw [if_pos hc] at i5
      cases i5
     ·have c2:decide (((2 * n+y:Nat):Int) - (fstL ls (j+1):Int)<(cntL ls (j+1):Int))=false:=decide_eq_false (by omega)
      rw [if_neg hc] at i5
      have e3:(totL ls j:Int)+(cntL ls (j+1):Int)=(totL ls (j+1):Int):=by omega
      have e4:(fstL ls (j+1):Int)+(cntL ls (j+1):Int)=(krL ls (j+1):Int):=by omega
      have htot:=tot_mono ls (j+1) (15 - (j+1))
      rw [show j+1+(15 - (j+1))=15 by omega] at htot
      by_cases ht15:totL ls (j+1)=totL ls 15
      ·rw [if_pos ht15] at i5
       injection i5 with i5; subst i5
       have c3:decide ((totL ls (j+1):Int)=(totL ls 15:Int))=true:=decide_eq_true (by omega)
       simp only [b_isign_0,t_isign_0,r_isign,c1,c2,c3,e1,e3,e4,ibitS,ibitX,ifailX,wrongV,unB_Bs,Int.toNat_natCast,hbit,hjo,hcn,List.length_map,sgs_len,cntV_len,go_sem,reduceDiv,reduceMod,↓reduceIte,reduceEqDiff,Nat.reduceBEq,reduceSub,Nat.reduceLT,reduceAdd,reduceLeDiff,reduceCtorEq,Int.reduceEq,Int.reduceNe,Int.reduceLT,Int.reduceLE,Int.reduceToNat]
       (repeat' apply And.intro)
       all_goals first | exact h1.1 | exact h1.2.1 | exact h1.2.2 | omega | (first | omega | (simp only [lenOk,bytesOk,inI,IntKind.bits,List.length_append,Bs_len,List.length_cons,List.length_nil,List.length_map,List.length_take,List.length_drop,List.length_replicate]; omega))
      ·rw [if_neg ht15] at i5
       have c3:decide ((totL ls (j+1):Int)=(totL ls 15:Int))=false:=decide_eq_false (by omega)
       simp only [b_isign_0,r_isign,c1,c2,c3,e1,e3,e4,ibitS,ibitX,unB_Bs,Int.toNat_natCast,hbit,hjo,hcn,List.length_map,sgs_len,cntV_len,go_sem,reduceDiv,reduceMod,↓reduceIte,reduceEqDiff,Nat.reduceBEq,reduceSub,Nat.reduceLT,reduceAdd,reduceLeDiff,reduceCtorEq,Int.reduceEq,Int.reduceNe,Int.reduceLT,Int.reduceLE,Int.reduceToNat]
       refine ⟨by (first | omega | (simp only [lenOk,bytesOk,inI,IntKind.bits,List.length_append,Bs_len,List.length_cons,List.length_nil,List.length_map,List.length_take,List.length_drop,List.length_replicate]; omega)),⟨h1,by omega⟩,by (first | omega | (simp only [lenOk,bytesOk,inI,IntKind.bits,List.length_append,Bs_len,List.length_cons,List.length_nil,List.length_map,List.length_take,List.length_drop,List.length_replicate]; omega)),by (first | omega | (simp only [lenOk,bytesOk,inI,IntKind.bits,List.length_append,Bs_len,List.length_cons,List.length_nil,List.length_map,List.length_take,List.length_drop,List.length_replicate]; omega)),by omega,by omega,by omega,by omega,by (first | omega | (simp only [lenOk,bytesOk,inI,IntKind.bits,List.length_append,Bs_len,List.length_cons,List.length_nil,List.length_map,List.length_take,List.length_drop,List.length_replicate]; omega)),by omega,by omega,by (first | omega | (simp only [lenOk,bytesOk,inI,IntKind.bits,List.length_append,Bs_len,List.length_cons,List.length_nil,List.length_map,List.length_take,List.length_drop,List.length_replicate]; omega)),by (first | omega | (simp only [lenOk,bytesOk,inI,IntKind.bits,List.length_append,Bs_len,List.length_cons,List.length_nil,List.length_map,List.length_take,List.length_drop,List.length_replicate]; omega)),hR _ ⟨j+1,2 * n+y⟩ ⟨by simp only; omega,by simp only [Nat.pow_succ]; omega,by simp only; omega,by simp only; omega,by simp only; rw [hb]; exact i5⟩ (by simp only; omega) rfl⟩
    ·rw [show 15 - j=(15 - (j+1))+1 by omega,signGo,hbit] at i5
     injection i5 with i5; subst i5
     simp only [b_isign_0,r_isign,c1,ibitS,ibitX,wrongV,unB_Bs,Int.toNat_natCast,hbit,go_sem,reduceDiv,reduceMod,↓reduceIte,reduceEqDiff,Nat.reduceBEq,reduceSub,Nat.reduceLT,reduceAdd,reduceLeDiff,reduceCtorEq,Int.reduceEq,Int.reduceNe,Int.reduceLT,Int.reduceLE,Int.reduceToNat]
     have h2j:(2:Nat) ^ j≤2 ^ 15:=Nat.pow_le_pow_right (by omega) (by omega)
     (repeat' apply And.intro)
     all_goals first | exact h1.1 | exact h1.2.1 | exact h1.2.2 | omega | (first | omega | (simp only [lenOk,bytesOk,inI,IntKind.bits,List.length_append,Bs_len,List.length_cons,List.length_nil,List.length_map,List.length_take,List.length_drop,List.length_replicate]; omega))
   ·rw [show 15 - j=0 by omega] at i5
    injection i5 with i5; subst i5
    have c1:decide (((j+1:Nat):Int)<16)=false:=decide_eq_false (by omega)
    simp only [b_isign_0,t_isign_0,r_isign,c1,ifailX,wrongV,go_sem,reduceDiv,reduceMod,↓reduceIte,reduceEqDiff,Nat.reduceBEq,reduceSub,Nat.reduceLT,reduceAdd,reduceLeDiff,reduceCtorEq,Int.reduceEq,Int.reduceNe,Int.reduceLT,Int.reduceLE,Int.reduceToNat]
    (repeat' apply And.intro)
    all_goals first | exact h1.1 | exact h1.2.1 | exact h1.2.2 | omega | (first | omega | (simp only [lenOk,bytesOk,inI,IntKind.bits,List.length_append,Bs_len,List.length_cons,List.length_nil,List.length_map,List.length_take,List.length_drop,List.length_replicate]; omega)) | skip
 ·cases hs
@[irreducible] def lenD (B:List Bool) (s p:Nat):RdE Nat:=lenE B s p
theorem lenD_eq (B:List Bool) (s p:Nat):lenD B s p=lenE B s p:=by unfold lenD; rfl
def lenIn (s:Int):Prop:=257≤s∧s≤1000
def ilenS:Spec:=fun xs hp=>match xs,hp with
 | [.ref 0 0 0,.int .i64 s],[.cells t [(1,.sl k ps),(1,.int .i64 a),(1,.own 1 v),(1,.int .i64 m)],.row et es rv ys]=>match lenD (bitsOf (unB ps)) s.toNat a.toNat with
  | .ok (x,q)=>some ⟨.int .i64 (x:Int),[.cells t [(1,.sl k ps),(1,.int .i64 (q:Int)),(1,.own 1 v),(1,.int .i64 m)],.row et es rv ys],inpOk k ps∧0≤a∧lenIn s⟩
  | .error _=>none
 | _,_=>none
def ilenX:XSpec:=fun xs hp=>match xs,hp with
 | [.ref 0 0 0,.int .i64 s],[.cells t [(1,.sl k ps),(1,.int .i64 a),(1,.own 1 v),(1,.int .i64 m)],.row et es rv ys]=>match lenD (bitsOf (unB ps)) s.toNat a.toNat with
  | .ok _=>none
  | .error e=>some (wrongV e,inpOk k ps∧0≤a∧a≤8 * ((unB ps).length:Int)∧lenIn s)
 | _,_=>none
theorem shl_le (r e E:Nat) (he:e≤E):r * 2 ^ e≤r * 2 ^ E:=Nat.mul_le_mul_left _ (Nat.pow_le_pow_right (by omega) he)
theorem cast_shl (r e:Nat):((r:Nat):Int) * 2 ^ e=((r * 2 ^ e:Nat):Int):=by push_cast; rfl
theorem ilen_ok:FnOk Tryd.prog 98 ilenS:=by
 refine fn_slim2A Tryd.func98 s_ilen phNum_ok ?_
 intro xs hp r hs hp'
 unfold ilenS at hs
 split at hs
 ·rename_i s t k ps a v m et es rv ys
  split at hs
  ·rename_i x q hb
   injection hs with hs; subst hs
   obtain ⟨h1,h2,h3,h4⟩:=hp'
   obtain ⟨j,rfl⟩:∃ j:Nat,s=((257+j:Nat):Int):=⟨(s - 257).toNat,by omega⟩
   obtain ⟨p,rfl⟩:∃ p:Nat,a=p:=⟨a.toNat,by omega⟩
   rw [Int.toNat_natCast,Int.toNat_natCast] at hb
   rw [lenD_eq] at hb
   unfold lenE at hb
   rw [show 257+j - 257=j by omega] at hb
   have e0:((257+j:Nat):Int) - 257=(j:Int):=by omega
   refine ⟨len_le (by kernel_rfl),?_⟩
   by_cases j8:j<8
   ·have c1:decide ((j:Int)<8)=true:=decide_eq_true (by omega)
    rw [if_pos j8] at hb
    injection hb with hb; injection hb with e1 e2; subst e1 e2
    have e3:(j:Int)+3=((j+3:Nat):Int):=by omega
    simp only [c_ilen,r_ilen,e0,e3,c1,go_sem,reduceDiv,reduceMod,↓reduceIte,reduceEqDiff,Nat.reduceBEq,reduceSub,Nat.reduceLT,reduceAdd,reduceLeDiff,reduceCtorEq,Int.reduceEq,Int.reduceNe,Int.reduceLT,Int.reduceLE,Int.reduceToNat]
    (repeat' apply And.intro) <;> first | exact h1.1 | exact h1.2.1 | exact h1.2.2 | omega | (first | omega | (simp only [lenOk,bytesOk,inI,IntKind.bits,List.length_append,Bs_len,List.length_cons,List.length_nil,List.length_map,List.length_take,List.length_drop,List.length_replicate]; omega))
   ·have c1:decide ((j:Int)<8)=false:=decide_eq_false (by omega)
    rw [if_neg j8] at hb
    by_cases j28:j=28
    ·have c2:decide ((j:Int)=28)=true:=decide_eq_true (by omega)
     rw [if_pos j28] at hb
     injection hb with hb; injection hb with e1 e2; subst e1 e2
     simp only [c_ilen,r_ilen,e0,c1,c2,go_sem,reduceDiv,reduceMod,↓reduceIte,reduceEqDiff,Nat.reduceBEq,reduceSub,Nat.reduceLT,reduceAdd,reduceLeDiff,reduceCtorEq,Int.reduceEq,Int.reduceNe,Int.reduceLT,Int.reduceLE,Int.reduceToNat]
     (repeat' apply And.intro) <;> first | exact h1.1 | exact h1.2.1 | exact h1.2.2 | omega | (first | omega | (simp only [lenOk,bytesOk,inI,IntKind.bits,List.length_append,Bs_len,List.length_cons,List.length_nil,List.length_map,List.length_take,List.length_drop,List.length_replicate]; omega))
    ·have c2:decide ((j:Int)=28)=false:=decide_eq_false (by omega)
     rw [if_neg j28] at hb
     by_cases j29:28<j
     ·rw [if_pos j29] at hb; cases hb
     ·have c3:decide ((28:Int)<(j:Int))=false:=decide_eq_false (by omega)
      rw [if_neg j29] at hb
      split at hb
      ·cases hb
      ·rename_i x' q' hn
       injection hb with hb; injection hb with e1 e2; subst e1 e2
       have e4:(j:Int).tdiv 4 - 1=((j / 4 - 1:Nat):Int):=by rw [Int.tdiv_eq_ediv_of_nonneg (by omega)]; omega
       have e4' : (j:Int).tdiv 4=((j / 4:Nat):Int):=by rw [Int.tdiv_eq_ediv_of_nonneg (by omega)]; omega
       have e5:(4:Int)+(j:Int).tmod 4=((4+j % 4:Nat):Int):=by rw [Int.tmod_eq_emod_of_nonneg (by omega)]; omega
       obtain ⟨_,hx,_⟩:=numE_ok hn
       have hx2:=numB_lt (bitsOf (unB ps)) p (j / 4 - 1)
       rw [← hx] at hx2
       have hp5:(2:Nat) ^ (j / 4 - 1)≤2 ^ 5:=Nat.pow_le_pow_right (by omega) (by omega)
       have hsl:=shl_le (4+j % 4) (j / 4 - 1) 5 (by omega)
       obtain ⟨z,hz⟩:∃ z,z=(4+j % 4) * 2 ^ (j / 4 - 1):=⟨_,rfl⟩
       have e7:((4+j % 4:Nat):Int) * 2 ^ (j / 4 - 1)=(z:Int):=by rw [cast_shl,hz]
       rw [← hz] at hsl
       have e8:(3:Int)+(z:Int)+(x' : Int)=((3+(4+j % 4) * 2 ^ (j / 4 - 1)+x' : Nat):Int):=by rw [← hz]; omega
       simp only [c_ilen,r_ilen,inumS,e0,c1,c2,c3,e4,e5,e7,e8,Int.toNat_natCast,hn,go_sem,reduceDiv,reduceMod,↓reduceIte,reduceEqDiff,Nat.reduceBEq,reduceSub,Nat.reduceLT,reduceAdd,reduceLeDiff,reduceCtorEq,Int.reduceEq,Int.reduceNe,Int.reduceLT,Int.reduceLE,Int.reduceToNat]
       refine ⟨by (first | omega | (simp only [lenOk,bytesOk,inI,IntKind.bits,List.length_append,Bs_len,List.length_cons,List.length_nil,List.length_map,List.length_take,List.length_drop,List.length_replicate]; omega)),by rw [e4']; (first | omega | (simp only [lenOk,bytesOk,inI,IntKind.bits,List.length_append,Bs_len,List.length_cons,List.length_nil,List.length_map,List.length_take,List.length_drop,List.length_replicate]; omega)),by (first | omega | (simp only [lenOk,bytesOk,inI,IntKind.bits,List.length_append,Bs_len,List.length_cons,List.length_nil,List.length_map,List.length_take,List.length_drop,List.length_replicate]; omega)),by (first | omega | (simp only [lenOk,bytesOk,inI,IntKind.bits,List.length_append,Bs_len,List.length_cons,List.length_nil,List.length_map,List.length_take,List.length_drop,List.length_replicate]; omega)),⟨by omega,by (first | omega | (simp only [lenOk,bytesOk,inI,IntKind.bits,List.length_append,Bs_len,List.length_cons,List.length_nil,List.length_map,List.length_take,List.length_drop,List.length_replicate]; omega))⟩,by (first | omega | (simp only [lenOk,bytesOk,inI,IntKind.bits,List.length_append,Bs_len,List.length_cons,List.length_nil,List.length_map,List.length_take,List.length_drop,List.length_replicate]; omega)),⟨h1,by omega,by omega,by omega⟩,by rw [← hz]; (first | omega | (simp only [lenOk,bytesOk,inI,IntKind.bits,List.length_append,Bs_len,List.length_cons,List.length_nil,List.length_map,List.length_take,List.length_drop,List.length_replicate]; omega))⟩
  ·cases hs
 ·cases hs
theorem ilen_px:FnPX Tryd.prog 98 ilenX:=by
 refine fn_slimX Tryd.func98 s_ilen phNum_ok phNum_px ?_
 intro xs hp x0 p0 hs hp'
 unfold ilenX at hs
 split at hs
 ·rename_i s t k ps a v m et es rv ys
  split at hs
  ·cases hs
  ·rename_i e hb
   injection hs with hs; injection hs with e1 e2; subst e1 e2
   obtain ⟨h1,h2,h2',h3,h4⟩:=hp'
   obtain ⟨j,rfl⟩:∃ j:Nat,s=((257+j:Nat):Int):=⟨(s - 257).toNat,by omega⟩
   obtain ⟨p,rfl⟩:∃ p:Nat,a=p:=⟨a.toNat,by omega⟩
   rw [Int.toNat_natCast,Int.toNat_natCast] at hb
   rw [lenD_eq] at hb
   unfold lenE at hb
   rw [show 257+j - 257=j by omega] at hb
   have e0:((257+j:Nat):Int) - 257=(j:Int):=by omega
   refine ⟨len_le (by kernel_rfl),?_⟩
   by_cases j8:j<8
   ·rw [if_pos j8] at hb; cases hb
   ·have c1:decide ((j:Int)<8)=false:=decide_eq_false (by omega)
    rw [if_neg j8] at hb
    by_cases j28:j=28
    ·rw [if_pos j28] at hb; cases hb
    ·have c2:decide ((j:Int)=28)=false:=decide_eq_false (by omega)
     rw [if_neg j28] at hb
     by_cases j29:28<j
     ·rw [if_pos j29] at hb
      injection hb with hb; subst hb
      have c3:decide ((28:Int)<(j:Int))=true:=decide_eq_true (by omega)
      simp only [c_ilen,r_ilen,ifailX,wrongV,e0,c1,c2,c3,go_sem,reduceDiv,reduceMod,↓reduceIte,reduceEqDiff,Nat.reduceBEq,reduceSub,Nat.reduceLT,reduceAdd,reduceLeDiff,reduceCtorEq,Int.reduceEq,Int.reduceNe,Int.reduceLT,Int.reduceLE,Int.reduceToNat]
      (repeat' apply And.intro) <;> first | exact h1.1 | exact h1.2.1 | exact h1.2.2 | omega | (first | omega | (simp only [lenOk,bytesOk,inI,IntKind.bits,List.length_append,Bs_len,List.length_cons,List.length_nil,List.length_map,List.length_take,List.length_drop,List.length_replicate]; omega))
     ·have c3:decide ((28:Int)<(j:Int))=false:=decide_eq_false (by omega)
      rw [if_neg j29] at hb
      split at hb
      ·rename_i e' hn
       injection hb with hb; subst hb
       have e4:(j:Int).tdiv 4 - 1=((j / 4 - 1:Nat):Int):=by rw [Int.tdiv_eq_ediv_of_nonneg (by omega)]; omega
       have e4' : (j:Int).tdiv 4=((j / 4:Nat):Int):=by rw [Int.tdiv_eq_ediv_of_nonneg (by omega)]; omega
       have e5:(4:Int)+(j:Int).tmod 4=((4+j % 4:Nat):Int):=by rw [Int.tmod_eq_emod_of_nonneg (by omega)]; omega
       have hp5:(2:Nat) ^ (j / 4 - 1)≤2 ^ 5:=Nat.pow_le_pow_right (by omega) (by omega)
       have hsl:=shl_le (4+j % 4) (j / 4 - 1) 5 (by omega)
       obtain ⟨z,hz⟩:∃ z,z=(4+j % 4) * 2 ^ (j / 4 - 1):=⟨_,rfl⟩
       have e7:((4+j % 4:Nat):Int) * 2 ^ (j / 4 - 1)=(z:Int):=by rw [cast_shl,hz]
       rw [← hz] at hsl
       simp only [c_ilen,r_ilen,inumX,inumS,wrongV,e0,c1,c2,c3,e4,e5,e7,Int.toNat_natCast,hn,go_sem,reduceDiv,reduceMod,↓reduceIte,reduceEqDiff,Nat.reduceBEq,reduceSub,Nat.reduceLT,reduceAdd,reduceLeDiff,reduceCtorEq,Int.reduceEq,Int.reduceNe,Int.reduceLT,Int.reduceLE,Int.reduceToNat]
       refine ⟨by (first | omega | (simp only [lenOk,bytesOk,inI,IntKind.bits,List.length_append,Bs_len,List.length_cons,List.length_nil,List.length_map,List.length_take,List.length_drop,List.length_replicate]; omega)),by rw [e4']; (first | omega | (simp only [lenOk,bytesOk,inI,IntKind.bits,List.length_append,Bs_len,List.length_cons,List.length_nil,List.length_map,List.length_take,List.length_drop,List.length_replicate]; omega)),by (first | omega | (simp only [lenOk,bytesOk,inI,IntKind.bits,List.length_append,Bs_len,List.length_cons,List.length_nil,List.length_map,List.length_take,List.length_drop,List.length_replicate]; omega)),by (first | omega | (simp only [lenOk,bytesOk,inI,IntKind.bits,List.length_append,Bs_len,List.length_cons,List.length_nil,List.length_map,List.length_take,List.length_drop,List.length_replicate]; omega)),⟨by omega,by (first | omega | (simp only [lenOk,bytesOk,inI,IntKind.bits,List.length_append,Bs_len,List.length_cons,List.length_nil,List.length_map,List.length_take,List.length_drop,List.length_replicate]; omega))⟩,by (first | omega | (simp only [lenOk,bytesOk,inI,IntKind.bits,List.length_append,Bs_len,List.length_cons,List.length_nil,List.length_map,List.length_take,List.length_drop,List.length_replicate]; omega)),h1,by omega,by omega,by omega,by omega⟩
      ·cases hb
 ·cases hs
def idistS:Spec:=fun xs hp=>match xs,hp with
 | [.ref 0 0 0,.int .i64 s],[.cells t [(1,.sl k ps),(1,.int .i64 a),(1,.own 1 v),(1,.int .i64 m)],.row et es rv ys]=>match distE (bitsOf (unB ps)) s.toNat a.toNat with
  | .ok (x,q)=>some ⟨.int .i64 (x:Int),[.cells t [(1,.sl k ps),(1,.int .i64 (q:Int)),(1,.own 1 v),(1,.int .i64 m)],.row et es rv ys],inpOk k ps∧0≤a∧0≤s∧s≤1000⟩
  | .error _=>none
 | _,_=>none
def idistX:XSpec:=fun xs hp=>match xs,hp with
 | [.ref 0 0 0,.int .i64 s],[.cells t [(1,.sl k ps),(1,.int .i64 a),(1,.own 1 v),(1,.int .i64 m)],.row et es rv ys]=>match distE (bitsOf (unB ps)) s.toNat a.toNat with
  | .ok _=>none
  | .error e=>some (wrongV e,inpOk k ps∧0≤a∧a≤8 * ((unB ps).length:Int)∧0≤s∧s≤1000)
 | _,_=>none
theorem idist_ok:FnOk Tryd.prog 99 idistS:=by
 refine fn_slim2A Tryd.func99 s_idist phNum_ok ?_
 intro xs hp r hs hp'
 unfold idistS at hs
 split at hs
 ·rename_i s t k ps a v m et es rv ys
  split at hs
  ·rename_i x q hb
   injection hs with hs; subst hs
   obtain ⟨h1,h2,h3,h4⟩:=hp'
   obtain ⟨j,rfl⟩:∃ j:Nat,s=j:=⟨s.toNat,by omega⟩
   obtain ⟨p,rfl⟩:∃ p:Nat,a=p:=⟨a.toNat,by omega⟩
   rw [Int.toNat_natCast,Int.toNat_natCast] at hb
   unfold distE at hb
   refine ⟨len_le (by kernel_rfl),?_⟩
   by_cases j8:j<4
   ·have c1:decide ((j:Int)<4)=true:=decide_eq_true (by omega)
    rw [if_pos j8] at hb
    injection hb with hb; injection hb with e1 e2; subst e1 e2
    have e3:(j:Int)+1=((j+1:Nat):Int):=by omega
    simp only [c_idist,r_idist,e3,c1,go_sem,reduceDiv,reduceMod,↓reduceIte,reduceEqDiff,Nat.reduceBEq,reduceSub,Nat.reduceLT,reduceAdd,reduceLeDiff,reduceCtorEq,Int.reduceEq,Int.reduceNe,Int.reduceLT,Int.reduceLE,Int.reduceToNat]
    (repeat' apply And.intro) <;> first | exact h1.1 | exact h1.2.1 | exact h1.2.2 | omega | (first | omega | (simp only [lenOk,bytesOk,inI,IntKind.bits,List.length_append,Bs_len,List.length_cons,List.length_nil,List.length_map,List.length_take,List.length_drop,List.length_replicate]; omega))
   ·have c1:decide ((j:Int)<4)=false:=decide_eq_false (by omega)
    rw [if_neg j8] at hb
    by_cases j29:29<j
    ·rw [if_pos j29] at hb; cases hb
    ·have c3:decide ((29:Int)<(j:Int))=false:=decide_eq_false (by omega)
     rw [if_neg j29] at hb
     split at hb
     ·cases hb
     ·rename_i x' q' hn
      injection hb with hb; injection hb with e1 e2; subst e1 e2
      have e4:(j:Int).tdiv 2 - 1=((j / 2 - 1:Nat):Int):=by rw [Int.tdiv_eq_ediv_of_nonneg (by omega)]; omega
      have e4' : (j:Int).tdiv 2=((j / 2:Nat):Int):=by rw [Int.tdiv_eq_ediv_of_nonneg (by omega)]; omega
      have e5:(2:Int)+(j:Int).tmod 2=((2+j % 2:Nat):Int):=by rw [Int.tmod_eq_emod_of_nonneg (by omega)]; omega
      obtain ⟨_,hx,_⟩:=numE_ok hn
      have hx2:=numB_lt (bitsOf (unB ps)) p (j / 2 - 1)
      rw [← hx] at hx2
      have hp5:(2:Nat) ^ (j / 2 - 1)≤2 ^ 13:=Nat.pow_le_pow_right (by omega) (by omega)
      have hsl:=shl_le (2+j % 2) (j / 2 - 1) 13 (by omega)
      obtain ⟨z,hz⟩:∃ z,z=(2+j % 2) * 2 ^ (j / 2 - 1):=⟨_,rfl⟩
      have e7:((2+j % 2:Nat):Int) * 2 ^ (j / 2 - 1)=(z:Int):=by rw [cast_shl,hz]
      rw [← hz] at hsl
      have e8:(1:Int)+(z:Int)+(x' : Int)=((1+(2+j % 2) * 2 ^ (j / 2 - 1)+x' : Nat):Int):=by rw [← hz]; omega
      simp only [c_idist,r_idist,inumS,c1,c3,e4,e5,e7,e8,Int.toNat_natCast,hn,go_sem,reduceDiv,reduceMod,↓reduceIte,reduceEqDiff,Nat.reduceBEq,reduceSub,Nat.reduceLT,reduceAdd,reduceLeDiff,reduceCtorEq,Int.reduceEq,Int.reduceNe,Int.reduceLT,Int.reduceLE,Int.reduceToNat]
      refine ⟨by rw [e4']; (first | omega | (simp only [lenOk,bytesOk,inI,IntKind.bits,List.length_append,Bs_len,List.length_cons,List.length_nil,List.length_map,List.length_take,List.length_drop,List.length_replicate]; omega)),by (first | omega | (simp only [lenOk,bytesOk,inI,IntKind.bits,List.length_append,Bs_len,List.length_cons,List.length_nil,List.length_map,List.length_take,List.length_drop,List.length_replicate]; omega)),by (first | omega | (simp only [lenOk,bytesOk,inI,IntKind.bits,List.length_append,Bs_len,List.length_cons,List.length_nil,List.length_map,List.length_take,List.length_drop,List.length_replicate]; omega)),⟨by omega,by (first | omega | (simp only [lenOk,bytesOk,inI,IntKind.bits,List.length_append,Bs_len,List.length_cons,List.length_nil,List.length_map,List.length_take,List.length_drop,List.length_replicate]; omega))⟩,by (first | omega | (simp only [lenOk,bytesOk,inI,IntKind.bits,List.length_append,Bs_len,List.length_cons,List.length_nil,List.length_map,List.length_take,List.length_drop,List.length_replicate]; omega)),⟨h1,by omega,by omega,by omega⟩,by rw [← hz]; (first | omega | (simp only [lenOk,bytesOk,inI,IntKind.bits,List.length_append,Bs_len,List.length_cons,List.length_nil,List.length_map,List.length_take,List.length_drop,List.length_replicate]; omega))⟩
  ·cases hs
 ·cases hs
theorem idist_px:FnPX Tryd.prog 99 idistX:=by
 refine fn_slimX Tryd.func99 s_idist phNum_ok phNum_px ?_
 intro xs hp x0 p0 hs hp'
 unfold idistX at hs
 split at hs
 ·rename_i s t k ps a v m et es rv ys
  split at hs
  ·cases hs
  ·rename_i e hb
   injection hs with hs; injection hs with e1 e2; subst e1 e2
   obtain ⟨h1,h2,h2',h3,h4⟩:=hp'
   obtain ⟨j,rfl⟩:∃ j:Nat,s=j:=⟨s.toNat,by omega⟩
   obtain ⟨p,rfl⟩:∃ p:Nat,a=p:=⟨a.toNat,by omega⟩
   rw [Int.toNat_natCast,Int.toNat_natCast] at hb
   unfold distE at hb
   refine ⟨len_le (by kernel_rfl),?_⟩
   by_cases j8:j<4
   ·rw [if_pos j8] at hb; cases hb
   ·have c1:decide ((j:Int)<4)=false:=decide_eq_false (by omega)
    rw [if_neg j8] at hb
    by_cases j29:29<j
    ·rw [if_pos j29] at hb
     injection hb with hb; subst hb
     have c3:decide ((29:Int)<(j:Int))=true:=decide_eq_true (by omega)
     simp only [c_idist,r_idist,ifailX,wrongV,c1,c3,go_sem,reduceDiv,reduceMod,↓reduceIte,reduceEqDiff,Nat.reduceBEq,reduceSub,Nat.reduceLT,reduceAdd,reduceLeDiff,reduceCtorEq,Int.reduceEq,Int.reduceNe,Int.reduceLT,Int.reduceLE,Int.reduceToNat]
    ·have c3:decide ((29:Int)<(j:Int))=false:=decide_eq_false (by omega)
     rw [if_neg j29] at hb
     split at hb
     ·rename_i e' hn
      injection hb with hb; subst hb
      have e4:(j:Int).tdiv 2 - 1=((j / 2 - 1:Nat):Int):=by rw [Int.tdiv_eq_ediv_of_nonneg (by omega)]; omega
      have e4' : (j:Int).tdiv 2=((j / 2:Nat):Int):=by rw [Int.tdiv_eq_ediv_of_nonneg (by omega)]; omega
      have e5:(2:Int)+(j:Int).tmod 2=((2+j % 2:Nat):Int):=by rw [Int.tmod_eq_emod_of_nonneg (by omega)]; omega
      have hp5:(2:Nat) ^ (j / 2 - 1)≤2 ^ 13:=Nat.pow_le_pow_right (by omega) (by omega)
      have hsl:=shl_le (2+j % 2) (j / 2 - 1) 13 (by omega)
      obtain ⟨z,hz⟩:∃ z,z=(2+j % 2) * 2 ^ (j / 2 - 1):=⟨_,rfl⟩
      have e7:((2+j % 2:Nat):Int) * 2 ^ (j / 2 - 1)=(z:Int):=by rw [cast_shl,hz]
      rw [← hz] at hsl
      simp only [c_idist,r_idist,inumX,inumS,wrongV,c1,c3,e4,e5,e7,Int.toNat_natCast,hn,go_sem,reduceDiv,reduceMod,↓reduceIte,reduceEqDiff,Nat.reduceBEq,reduceSub,Nat.reduceLT,reduceAdd,reduceLeDiff,reduceCtorEq,Int.reduceEq,Int.reduceNe,Int.reduceLT,Int.reduceLE,Int.reduceToNat]
      refine ⟨by rw [e4']; (first | omega | (simp only [lenOk,bytesOk,inI,IntKind.bits,List.length_append,Bs_len,List.length_cons,List.length_nil,List.length_map,List.length_take,List.length_drop,List.length_replicate]; omega)),by (first | omega | (simp only [lenOk,bytesOk,inI,IntKind.bits,List.length_append,Bs_len,List.length_cons,List.length_nil,List.length_map,List.length_take,List.length_drop,List.length_replicate]; omega)),by (first | omega | (simp only [lenOk,bytesOk,inI,IntKind.bits,List.length_append,Bs_len,List.length_cons,List.length_nil,List.length_map,List.length_take,List.length_drop,List.length_replicate]; omega)),⟨by omega,by (first | omega | (simp only [lenOk,bytesOk,inI,IntKind.bits,List.length_append,Bs_len,List.length_cons,List.length_nil,List.length_map,List.length_take,List.length_drop,List.length_replicate]; omega))⟩,by (first | omega | (simp only [lenOk,bytesOk,inI,IntKind.bits,List.length_append,Bs_len,List.length_cons,List.length_nil,List.length_map,List.length_take,List.length_drop,List.length_replicate]; omega)),h1,by omega,by omega,by omega,by omega⟩
     ·cases hb
 ·cases hs
end Go.Proofs.YtakolikdebfkeaaDoor
