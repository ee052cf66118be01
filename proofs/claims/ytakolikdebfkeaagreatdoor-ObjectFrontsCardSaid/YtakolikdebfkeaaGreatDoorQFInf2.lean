import Derived.Test.YtakolikdebfkeaaGreatDoorQInfLaw5
import Derived.Test.YtakolikdebfkeaaGreatDoorQR59Code
open Nat (reduceDiv reduceMod reduceSub reduceAdd reduceLeDiff reduceEqDiff)
set_option linter.all false
namespace Go.Proofs.YtakolikdebfkeaaGreatDoor
open Go.RowKit
theorem phNum_ok:PhiOk Tryz.prog (phiL [(123,[],inumS)]):=phi_cons inum_ok (by kernel_rfl) phi_nil
theorem phNum_px:PhXOk Tryz.prog (phXL [(123,[],inumX),(128,[],ifailX)]):=phXL_cons inum_px (by kernel_rfl) (phXL_cons ifail_ok (by kernel_rfl) phXL_nil)
def ibelS:Spec:=fun xs hp=>match xs,hp with
 | [.ref 0 0 0,.int .i64 n,.int .i64 mo],[.cells t [(1,.sl k ps),(1,.int .i64 a),(1,.own 1 v),(1,.int .i64 m)],.row et es rv ys]=>match belowE (bitsOf (unB ps)) a.toNat n.toNat mo.toNat with
  | .ok (x,q)=>some ⟨.int .i64 (x:Int),[.cells t [(1,.sl k ps),(1,.int .i64 (q:Int)),(1,.own 1 v),(1,.int .i64 m)],.row et es rv ys],inpOk k ps∧0≤a∧0≤n∧n<40∧0≤mo⟩
  | .error _=>none
 | _,_=>none
def ibelX:XSpec:=fun xs hp=>match xs,hp with
 | [.ref 0 0 0,.int .i64 n,.int .i64 mo],[.cells t [(1,.sl k ps),(1,.int .i64 a),(1,.own 1 v),(1,.int .i64 m)],.row et es rv ys]=>match belowE (bitsOf (unB ps)) a.toNat n.toNat mo.toNat with
  | .ok _=>none
  | .error e=>some (wrongV e,inpOk k ps∧0≤a∧a≤8 * ((unB ps).length:Int)∧0≤n∧n<40∧0≤mo)
 | _,_=>none
def outOk (v rv:Nat) (ys:List AV) (m:Int):Prop:=ys=Bs (unB ys)∧v=rv∧0≤m∧m≤100000000
def iputS:Spec:=fun xs hp=>match xs,hp with
 | [.ref 0 0 0,.int .u8 c],[.cells t [(1,.sl k ps),(1,.int .i64 a),(1,.own 1 v),(1,.int .i64 m)],.row 5 1 rv ys]=>match putE m.toNat (unB ys) (UInt8.ofNat c.toNat) with
  | .ok o=>some ⟨.tup [],[.cells t [(1,.sl k ps),(1,.int .i64 a),(1,.own 1 (v+1)),(1,.int .i64 m)],.row 5 1 (v+1) (Bs o)],outOk v rv ys m∧0≤c∧c<256⟩
  | .error _=>none
 | _,_=>none
def iputX:XSpec:=fun xs hp=>match xs,hp with
 | [.ref 0 0 0,.int .u8 c],[.cells t [(1,.sl k ps),(1,.int .i64 a),(1,.own 1 v),(1,.int .i64 m)],.row 5 1 rv ys]=>match putE m.toNat (unB ys) (UInt8.ofNat c.toNat) with
  | .ok _=>none
  | .error e=>some (wrongV e,outOk v rv ys m∧(unB ys).length≤1000000000)
 | _,_=>none
theorem byte_B (c:Nat) (h:c<256):[AV.int IntKind.u8 (c:Int)]=Bs [UInt8.ofNat c]:=by
 have e:(UInt8.ofNat c).toNat=c:=by rw [UInt8.toNat_ofNat']; omega
 show _=[AV.int .u8 ((UInt8.ofNat c).toNat:Int)]
 rw [e]
theorem iput_ok:FnOk Tryz.prog 153 iputS:=by
 refine fn_slim2 Tryz.func153 s_iput (Φ:=phiL []) phi_nil ?_
 intro xs hp r hs hp'
 unfold iputS at hs
 split at hs
 ·rename_i c t k ps a v m rv ys
  split at hs
  ·rename_i o hb
   injection hs with hs; subst hs
   obtain ⟨⟨h1,rfl,h3,h4⟩,h5,h6⟩:=hp'
   obtain ⟨mo,rfl⟩:∃ p:Nat,m=p:=⟨m.toNat,by omega⟩
   obtain ⟨c,rfl⟩:∃ p:Nat,c=p:=⟨c.toNat,by omega⟩
   generalize unB ys=out at *
   subst h1
   unfold putE at hb
   rw [Int.toNat_natCast,Int.toNat_natCast] at hb
   refine ⟨len_le (by kernel_rfl),?_⟩
   split at hb
   ·cases hb
   ·rename_i hlt
    injection hb with hb; subst hb
    have c1:decide ((mo:Int)≤(out.length:Int))=false:=decide_eq_false (by omega)
    simp only [c_iput,r_iput,c1,Bs_len,byte_B c (by omega),← Bs_append,go_sem,reduceDiv,reduceMod,↓reduceIte,Nat.reduceBEq,reduceSub,reduceAdd,reduceLeDiff,reduceCtorEq]
    constructor <;> (first | omega | (simp only [lenOk,bytesOk,List.length_append,List.length_cons,List.length_nil]; omega))
  ·cases hs
 ·cases hs
theorem iput_px:FnPX Tryz.prog 153 iputX:=by
 refine fn_slimX (ΦX:=phXL [(128,[],ifailX)]) Tryz.func153 s_iput (Φ:=phiL []) phi_nil (phXL_cons ifail_ok (by kernel_rfl) phXL_nil) ?_
 intro xs hp x0 p0 hs hp'
 unfold iputX at hs
 split at hs
 ·rename_i c t k ps a v m rv ys
  split at hs
  ·cases hs
  ·rename_i e hb
   injection hs with hs; injection hs with e1 e2; subst e1 e2
   obtain ⟨⟨h1,rfl,h3,h4⟩,h5⟩:=hp'
   obtain ⟨mo,rfl⟩:∃ p:Nat,m=p:=⟨m.toNat,by omega⟩
   generalize unB ys=out at *
   subst h1
   unfold putE at hb
   rw [Int.toNat_natCast] at hb
   refine ⟨len_le (by kernel_rfl),?_⟩
   split at hb
   ·rename_i hlt
    injection hb with hb; subst hb
    have c1:decide ((mo:Int)≤(out.length:Int))=true:=decide_eq_true (by omega)
    simp only [c_iput,ifailX,wrongV,c1,Bs_len,go_sem,reduceDiv,reduceMod,↓reduceIte,reduceSub,reduceAdd,reduceLeDiff,reduceCtorEq,Int.reduceLE,Int.reduceToNat]
   ·cases hb
 ·cases hs
theorem join1 (n b:Nat) (hn:n<1099511627776) (hb:b<2):bits .or .i64 ((n:Int) * 2 ^ 1) (b:Int)=((2 * n+b:Nat):Int):=by
 have e1:(n:Int) * 2 ^ 1=((2 * n:Nat):Int):=by omega
 rw [e1,i64_or _ _ (by omega) (by omega),nat_join 1 (2 * n) b (by simp) (by omega)]
noncomputable def isignS:Spec:=fun xs hp=>match xs,hp with
 | [.ref 0 0 0,.agg [(16,.blob cs),(1,.sl 1 sg)]],[.cells t [(1,.sl k ps),(1,.int .i64 a),(1,.own 1 v),(1,.int .i64 m)],.row et es rv ys]=>match signE (lsOf (.agg [(16,.blob cs),(1,.sl 1 sg)])) (bitsOf (unB ps)) a.toNat with
  | .ok (x,q)=>some ⟨.int .i64 (x:Int),[.cells t [(1,.sl k ps),(1,.int .i64 (q:Int)),(1,.own 1 v),(1,.int .i64 m)],.row et es rv ys],inpOk k ps∧0≤a∧.agg [(16,.blob cs),(1,.sl 1 sg)]=codeV (lsOf (.agg [(16,.blob cs),(1,.sl 1 sg)]))∧sg.length≤1000⟩
  | .error _=>none
 | _,_=>none
noncomputable def isignX:XSpec:=fun xs hp=>match xs,hp with
 | [.ref 0 0 0,.agg [(16,.blob cs),(1,.sl 1 sg)]],[.cells t [(1,.sl k ps),(1,.int .i64 a),(1,.own 1 v),(1,.int .i64 m)],.row et es rv ys]=>match signE (lsOf (.agg [(16,.blob cs),(1,.sl 1 sg)])) (bitsOf (unB ps)) a.toNat with
  | .ok _=>none
  | .error e=>some (wrongV e,inpOk k ps∧0≤a∧a≤8 * ((unB ps).length:Int)∧.agg [(16,.blob cs),(1,.sl 1 sg)]=codeV (lsOf (.agg [(16,.blob cs),(1,.sl 1 sg)]))∧sg.length≤1000)
 | _,_=>none
theorem bit_cases (b:List UInt8) (p:Nat):(∃ x,x<2∧bitE (bitsOf b) p=.ok (x,p+1)∧p<8 * b.length)∨(bitE (bitsOf b) p=.error 3∧8 * b.length≤p):=by
 rcases Nat.lt_or_ge p (8 * b.length) with h | h
 ·exact .inl ⟨_,Nat.mod_lt _ (by omega),bitE_lt h,h⟩
 ·exact .inr ⟨bitE_ge h,h⟩
theorem sgs_at (ls:List Nat) {l r:Nat} (hl:l<15) (hr:r<cntL ls (l+1)):((sgs ls).map iV).getD (totL ls l+r) (.int .i64 0)=.int .i64 (((idxs ls (l+1)).getD r 0:Nat):Int):=by
 have h:=sgs_get ls hl hr
 rw [List.getD_eq_getElem?_getD,List.getElem?_map,h,List.getD_eq_getElem?_getD]
 have:r<(idxs ls (l+1)).length:=by rw [idxs_length]; exact hr
 rw [List.getElem?_eq_getElem this]; rfl
structure SgI where
 j:Nat
 n:Nat
theorem isign_ok:FnOk Tryz.prog 154 isignS:=by
 refine fn_slim2 Tryz.func154 s_isign (Φ:=phiL [(122,[],ibitS)]) (phi_cons ibit_ok (by kernel_rfl) phi_nil) ?_
 intro xs hp r hs hp'
 unfold isignS at hs
 split at hs
 ·rename_i cs sg t k ps a v m et es rv ys
  split at hs
  ·rename_i x q hb
   injection hs with hs; subst hs
   obtain ⟨h1,h2,h3,h4⟩:=hp'
   obtain ⟨p,rfl⟩:∃ p:Nat,a=p:=⟨a.toNat,by omega⟩
   have hps:=h1.1
   generalize unB ps=b at *
   subst hps
   have hl:=inp_len h1
   rw [Int.toNat_natCast] at hb
   generalize lsOf (.agg [(16,.blob cs),(1,.sl 1 sg)])=ls at *
   unfold codeV at h3
   simp only [AV.agg.injEq,List.cons.injEq,Prod.mk.injEq,true_and,AV.blob.injEq,AV.sl.injEq,and_true] at h3
   obtain ⟨rfl,rfl⟩:=h3
   rw [List.length_map,sgs_len] at h4
   have hp0:p≤8 * b.length:=by
    rcases bit_cases b p with ⟨_,_,_,h⟩ | ⟨h,_⟩
    ·omega
    ·unfold signE signGo at hb; rw [h] at hb; cases hb
   refine ⟨len_le (by kernel_rfl),?_⟩
   simp only [c_isign,go_sem,reduceDiv,reduceMod,↓reduceIte,reduceAdd]
   refine loop2P [] [0,3,5,6,7,8] [0,1,2] (fun i:SgI=>⟨[(0,.ref 0 0 0),(3,.ref 2 0 0),(5,.int .i64 (i.n:Int)),(6,.int .i64 (krL ls i.j:Int)),(7,.int .i64 (totL ls i.j:Int)),(8,.int .i64 ((i.j+1:Nat):Int))],[.cells t [(1,.sl k (Bs b)),(1,.int .i64 ((p+i.j:Nat):Int)),(1,.own 1 v),(1,.int .i64 m)],.row et es rv ys,.cells 189 [(16,.blob (cntV ls)),(1,.sl 1 ((sgs ls).map iV))]]⟩) (fun i:SgI=>i.j≤15∧i.n<2 ^ i.j∧krL ls i.j≤i.n∧p+i.j≤8 * b.length∧signE ls (bitsOf b) p=signGo ls (bitsOf b) (15 - i.j) i.j i.n (p+i.j)) (fun i=>15 - i.j) ⟨0,0⟩ (by rfl) ⟨Nat.zero_le _,by decide,Nat.zero_le _,hp0,rfl⟩ ⟨rfl,by rfl⟩ (fun i hi R hR=>?_)
   obtain ⟨j,n⟩:=i
   obtain ⟨i1,i2,i3,i4,i5⟩:=hi
   simp only at i1 i2 i3 i4 i5
   rw [hb] at i5
   by_cases hj:j<15
   ·have c1:decide (((j+1:Nat):Int)<16)=true:=decide_eq_true (by omega)
    rcases bit_cases b (p+j) with ⟨y,hy,hbit,hlt⟩ | ⟨hbit,_⟩
    ·have h2j:(2:Nat) ^ j≤2 ^ 15:=Nat.pow_le_pow_right (by omega) (by omega)
     have hjo:=join1 n y (by omega) hy
     have hcn:=cntV_get ls (l:=j+1) (by omega) (Value.int .i64 0)
     have hst:signGo ls (bitsOf b) (15 - j) j n (p+j)=(if 2 * n+y<fstL ls (j+1)+cntL ls (j+1) then .ok ((idxs ls (j+1)).getD (2 * n+y - fstL ls (j+1)) 0,p+j+1) else if totL ls (j+1)=totL ls 15 then .error 4 else signGo ls (bitsOf b) (15 - (j+1)) (j+1) (2 * n+y) (p+j+1)):=by
      rw [show 15 - j=(15 - (j+1))+1 by omega,signGo,hbit]
     rw [hst] at i5
     have hf:=fstL_succ ls j
     have ht:totL ls (j+1)=totL ls j+cntL ls (j+1):=rfl
     have e0:cnt0 ls (j+1)=cntL ls (j+1):=if_neg (by omega)
     have e1:(krL ls j:Int) * 2 ^ 1=(fstL ls (j+1):Int):=by omega
     rw [e0] at hcn
     have hkr:krL ls (j+1)=fstL ls (j+1)+cntL ls (j+1):=by unfold krL; rw [if_neg (by omega)]
     by_cases hc:2 * n+y<fstL ls (j+1)+cntL ls (j+1)
     ·rw [if_pos hc] at i5
      injection i5 with i5; injection i5 with e1 e2; subst e1 e2
      have c2:decide (((2 * n+y:Nat):Int) - (fstL ls (j+1):Int)<(cntL ls (j+1):Int))=true:=decide_eq_true (by omega)
      have e2:(totL ls j:Int)+((2 * n+y:Nat):Int) - (fstL ls (j+1):Int)=((totL ls j+(2 * n+y - fstL ls (j+1)):Nat):Int):=by omega
      have hget:=sgs_at ls (l:=j) (r:=2 * n+y - fstL ls (j+1)) (by omega) (by omega)
      have htot:=tot_mono ls (j+1) (15 - (j+1))
      rw [show j+1+(15 - (j+1))=15 by omega] at htot
      simp only [b_isign_0,r_isign,c1,c2,e1,e2,ibitS,unB_Bs,Int.toNat_natCast,hbit,hjo,hcn,hget,List.length_map,sgs_len,cntV_len,go_sem,reduceDiv,reduceMod,↓reduceIte,Nat.reduceBEq,reduceSub,Nat.reduceLT,reduceAdd,reduceCtorEq,Int.reduceLE,Int.reduceToNat]
      (repeat' apply And.intro)
      all_goals first | exact h1.1 | exact h1.2.1 | exact h1.2.2 | omega | (first | omega | (simp only [lenOk,bytesOk,inI,IntKind.bits,List.length_append,Bs_len,List.length_cons,List.length_nil,List.length_map,List.length_take,List.length_drop,List.length_replicate]; omega))
     ·have c2:decide (((2 * n+y:Nat):Int) - (fstL ls (j+1):Int)<(cntL ls (j+1):Int))=false:=decide_eq_false (by omega)
      rw [if_neg hc] at i5
      by_cases ht15:totL ls (j+1)=totL ls 15
      ·rw [if_pos ht15] at i5; cases i5
      ·rw [if_neg ht15] at i5
       have c3:decide ((totL ls j:Int)+(cntL ls (j+1):Int)=(totL ls 15:Int))=false:=decide_eq_false (by omega)
       have e3:(totL ls j:Int)+(cntL ls (j+1):Int)=(totL ls (j+1):Int):=by omega
       have e4:(fstL ls (j+1):Int)+(cntL ls (j+1):Int)=(krL ls (j+1):Int):=by omega
       rw [e3] at c3
       have htot:=tot_mono ls (j+1) (15 - (j+1))
       rw [show j+1+(15 - (j+1))=15 by omega] at htot
       simp only [b_isign_0,r_isign,c1,c2,c3,e1,e3,e4,ibitS,unB_Bs,Int.toNat_natCast,hbit,hjo,hcn,List.length_map,sgs_len,cntV_len,go_sem,reduceDiv,reduceMod,↓reduceIte,Nat.reduceBEq,reduceSub,Nat.reduceLT,reduceAdd,reduceCtorEq,Int.reduceLE,Int.reduceToNat]
       refine ⟨by (first | omega | (simp only [inI]; omega)),⟨h1,by omega⟩,by (first | omega | (simp only [inI]; omega)),by (first | omega | (simp only [inI]; omega)),by omega,by omega,by omega,by omega,by (first | omega | (simp only [inI]; omega)),by omega,by omega,by (first | omega | (simp only [inI]; omega)),by (first | omega | (simp only [inI]; omega)),hR _ ⟨j+1,2 * n+y⟩ ⟨by simp only; omega,by simp only [Nat.pow_succ]; omega,by simp only; omega,by simp only; omega,by simp only; rw [hb]; exact i5⟩ (by simp only; omega) rfl⟩
    ·rw [show 15 - j=(15 - (j+1))+1 by omega,signGo,hbit] at i5; cases i5
   ·rw [show 15 - j=0 by omega] at i5
    cases i5
  ·cases hs
 ·cases hs
theorem isign_px:FnPX Tryz.prog 154 isignX:=by
 refine fn_slimX (ΦX:=phXL [(122,[],ibitX),(128,[],ifailX)]) Tryz.func154 s_isign (Φ:=phiL [(122,[],ibitS)]) (phi_cons ibit_ok (by kernel_rfl) phi_nil)
  (phXL_cons ibit_px (by kernel_rfl) (phXL_cons ifail_ok (by kernel_rfl) phXL_nil)) ?_
 intro xs hp x0 p0 hs hp'
 unfold isignX at hs
 split at hs
 ·rename_i cs sg t k ps a v m et es rv ys
  split at hs
  ·cases hs
  ·rename_i e hb
   injection hs with hs; injection hs with e1 e2; subst e1 e2
   obtain ⟨h1,h2,hp0,h3,h4⟩:=hp'
   obtain ⟨p,rfl⟩:∃ p:Nat,a=p:=⟨a.toNat,by omega⟩
   have hps:=h1.1
   generalize unB ps=b at *
   subst hps
   have hl:=inp_len h1
   rw [Int.toNat_natCast] at hb
   generalize lsOf (.agg [(16,.blob cs),(1,.sl 1 sg)])=ls at *
   unfold codeV at h3
   simp only [AV.agg.injEq,List.cons.injEq,Prod.mk.injEq,true_and,AV.blob.injEq,AV.sl.injEq,and_true] at h3
   obtain ⟨rfl,rfl⟩:=h3
   rw [List.length_map,sgs_len] at h4
   have hp0:p≤8 * b.length:=by omega
   refine ⟨len_le (by kernel_rfl),?_⟩
   simp only [c_isign,go_sem,reduceDiv,reduceMod,↓reduceIte,reduceAdd]
   refine loop3P [] [0,3,5,6,7,8] [0,1,2] (fun i:SgI=>⟨[(0,.ref 0 0 0),(3,.ref 2 0 0),(5,.int .i64 (i.n:Int)),(6,.int .i64 (krL ls i.j:Int)),(7,.int .i64 (totL ls i.j:Int)),(8,.int .i64 ((i.j+1:Nat):Int))],[.cells t [(1,.sl k (Bs b)),(1,.int .i64 ((p+i.j:Nat):Int)),(1,.own 1 v),(1,.int .i64 m)],.row et es rv ys,.cells 189 [(16,.blob (cntV ls)),(1,.sl 1 ((sgs ls).map iV))]]⟩) (fun i:SgI=>i.j≤15∧i.n<2 ^ i.j∧krL ls i.j≤i.n∧p+i.j≤8 * b.length∧signE ls (bitsOf b) p=signGo ls (bitsOf b) (15 - i.j) i.j i.n (p+i.j)) (fun i=>15 - i.j) ⟨0,0⟩ (by rfl) ⟨Nat.zero_le _,by decide,Nat.zero_le _,hp0,rfl⟩ ⟨rfl,by rfl⟩ (fun i hi R hR=>?_)
   obtain ⟨j,n⟩:=i
   obtain ⟨i1,i2,i3,i4,i5⟩:=hi
   simp only at i1 i2 i3 i4 i5
   rw [hb] at i5
   by_cases hj:j<15
   ·have c1:decide (((j+1:Nat):Int)<16)=true:=decide_eq_true (by omega)
    rcases bit_cases b (p+j) with ⟨y,hy,hbit,hlt⟩ | ⟨hbit,_⟩
    ·have h2j:(2:Nat) ^ j≤2 ^ 15:=Nat.pow_le_pow_right (by omega) (by omega)
     have hjo:=join1 n y (by omega) hy
     have hcn:=cntV_get ls (l:=j+1) (by omega) (Value.int .i64 0)
     have hst:signGo ls (bitsOf b) (15 - j) j n (p+j)=(if 2 * n+y<fstL ls (j+1)+cntL ls (j+1) then .ok ((idxs ls (j+1)).getD (2 * n+y - fstL ls (j+1)) 0,p+j+1) else if totL ls (j+1)=totL ls 15 then .error 4 else signGo ls (bitsOf b) (15 - (j+1)) (j+1) (2 * n+y) (p+j+1)):=by
      rw [show 15 - j=(15 - (j+1))+1 by omega,signGo,hbit]
     rw [hst] at i5
     have hf:=fstL_succ ls j
     have ht:totL ls (j+1)=totL ls j+cntL ls (j+1):=rfl
     have e0:cnt0 ls (j+1)=cntL ls (j+1):=if_neg (by omega)
     have e1:(krL ls j:Int) * 2 ^ 1=(fstL ls (j+1):Int):=by omega
     rw [e0] at hcn
     have hkr:krL ls (j+1)=fstL ls (j+1)+cntL ls (j+1):=by unfold krL; rw [if_neg (by omega)]
     by_cases hc:2 * n+y<fstL ls (j+1)+cntL ls (j+1)
     ·rw [if_pos hc] at i5
      cases i5
     ·have c2:decide (((2 * n+y:Nat):Int) - (fstL ls (j+1):Int)<(cntL ls (j+1):Int))=false:=decide_eq_false (by omega)
      rw [if_neg hc] at i5
      have e3:(totL ls j:Int)+(cntL ls (j+1):Int)=(totL ls (j+1):Int):=by omega
      have e4:(fstL ls (j+1):Int)+(cntL ls (j+1):Int)=(krL ls (j+1):Int):=by omega
      have htot:=tot_mono ls (j+1) (15 - (j+1))
      rw [show j+1+(15 - (j+1))=15 by omega] at htot
      by_cases ht15:totL ls (j+1)=totL ls 15
      ·rw [if_pos ht15] at i5
       injection i5 with i5; subst i5
       have c3:decide ((totL ls (j+1):Int)=(totL ls 15:Int))=true:=decide_eq_true (by omega)
       simp only [b_isign_0,t_isign_0,c1,c2,c3,e1,e3,e4,ibitS,ibitX,ifailX,wrongV,unB_Bs,Int.toNat_natCast,hbit,hjo,hcn,List.length_map,sgs_len,cntV_len,go_sem,reduceDiv,reduceMod,↓reduceIte,reduceEqDiff,Nat.reduceBEq,reduceSub,Nat.reduceLT,reduceAdd,reduceCtorEq,Int.reduceLE,Int.reduceToNat]
       (repeat' apply And.intro)
       all_goals first | exact h1.1 | exact h1.2.1 | exact h1.2.2 | omega | (first | omega | (simp only [lenOk,bytesOk,inI,IntKind.bits,List.length_append,Bs_len,List.length_cons,List.length_nil,List.length_map,List.length_take,List.length_drop,List.length_replicate]; omega))
      ·rw [if_neg ht15] at i5
       have c3:decide ((totL ls (j+1):Int)=(totL ls 15:Int))=false:=decide_eq_false (by omega)
       simp only [b_isign_0,c1,c2,c3,e1,e3,e4,ibitS,ibitX,unB_Bs,Int.toNat_natCast,hbit,hjo,hcn,List.length_map,sgs_len,cntV_len,go_sem,reduceDiv,reduceMod,↓reduceIte,Nat.reduceBEq,reduceSub,Nat.reduceLT,reduceAdd,reduceCtorEq,Int.reduceLE,Int.reduceToNat]
       refine ⟨by (first | omega | (simp only [inI]; omega)),⟨h1,by omega⟩,by (first | omega | (simp only [inI]; omega)),by (first | omega | (simp only [inI]; omega)),by omega,by omega,by omega,by omega,by (first | omega | (simp only [inI]; omega)),by omega,by omega,by (first | omega | (simp only [inI]; omega)),by (first | omega | (simp only [inI]; omega)),hR _ ⟨j+1,2 * n+y⟩ ⟨by simp only; omega,by simp only [Nat.pow_succ]; omega,by simp only; omega,by simp only; omega,by simp only; rw [hb]; exact i5⟩ (by simp only; omega) rfl⟩
    ·rw [show 15 - j=(15 - (j+1))+1 by omega,signGo,hbit] at i5
     injection i5 with i5; subst i5
     simp only [b_isign_0,c1,ibitX,wrongV,unB_Bs,Int.toNat_natCast,hbit,go_sem,reduceDiv,reduceMod,↓reduceIte,Nat.reduceBEq,reduceAdd,reduceCtorEq,Int.reduceLE,Int.reduceToNat]
     have h2j:(2:Nat) ^ j≤2 ^ 15:=Nat.pow_le_pow_right (by omega) (by omega)
     (repeat' apply And.intro)
     all_goals first | exact h1.1 | exact h1.2.1 | exact h1.2.2 | omega | (first | omega | (simp only [lenOk,bytesOk,inI,IntKind.bits,List.length_append,Bs_len,List.length_cons,List.length_nil,List.length_map,List.length_take,List.length_drop,List.length_replicate]; omega))
   ·rw [show 15 - j=0 by omega] at i5
    injection i5 with i5; subst i5
    have c1:decide (((j+1:Nat):Int)<16)=false:=decide_eq_false (by omega)
    simp only [b_isign_0,t_isign_0,c1,ifailX,wrongV,go_sem,reduceDiv,reduceMod,↓reduceIte,reduceEqDiff,Int.reduceLE,Int.reduceToNat]
    (repeat' apply And.intro)
    all_goals first | exact h1.1 | exact h1.2.1 | exact h1.2.2 | omega | (first | omega | (simp only [lenOk,bytesOk,inI,IntKind.bits,List.length_append,Bs_len,List.length_cons,List.length_nil,List.length_map,List.length_take,List.length_drop,List.length_replicate]; omega)) | skip
 ·cases hs
def r3bitS:Spec:=fun xs hp=>match xs,hp with
 | [.ref 0 0 0],[.cells t [(1,.sl k ps),(1,.int .i64 a),(1,.own 1 v),(1,.int .i64 m),(1,.int .i64 0)],.row et es rv ys]=>match bitE (bitsOf (unB ps)) a.toNat with
  | .ok (x,q)=>some ⟨.int .i64 (x:Int),[.cells t [(1,.sl k ps),(1,.int .i64 (q:Int)),(1,.own 1 v),(1,.int .i64 m),(1,.int .i64 0)],.row et es rv ys],inpOk k ps∧0≤a⟩
  | .error _=>none
 | _,_=>none
theorem half_nat (c i:Nat):((c / 2 ^ i:Nat):Int).tdiv 2=((c / 2 ^ (i+1):Nat):Int):=by
 rw [Nat.pow_succ,← Nat.div_div_eq_div_mul]; rfl
set_option maxRecDepth 8000 in
theorem r3bit_ok:FnOk Tryz.prog 32 r3bitS:=by
 refine fn_slim2 Tryz.func32 s_r3bit (Φ:=phiL []) phi_nil ?_
 intro xs hp r hs hp'
 unfold r3bitS at hs
 split at hs
 ·rename_i t k ps a v m et es rv ys
  split at hs
  ·rename_i x q hb
   injection hs with hs; subst hs
   obtain ⟨h1,h2⟩:=hp'
   obtain ⟨p,rfl⟩:∃ p:Nat,a=p:=⟨a.toNat,by omega⟩
   have hps:=h1.1
   generalize unB ps=b at *
   subst hps
   have hl:=inp_len h1
   rw [Int.toNat_natCast] at hb
   have hlt:p<8 * b.length:=by
    rcases Nat.lt_or_ge p (8 * b.length) with h | h
    ·exact h
    ·rw [bitE_ge h] at hb; cases hb
   rw [bitE_lt hlt] at hb
   injection hb with hb; injection hb with e1 e2; subst e1 e2
   obtain rfl:=inp_k h1 (by omega)
   refine ⟨len_le (by kernel_rfl),?_⟩
   have c1:decide ((8:Int) * (b.length:Int)≤(p:Int))=false:=decide_eq_false (by omega)
   have e1:(p:Int).tdiv 8=((p / 8:Nat):Int):=by rw [Int.tdiv_eq_ediv_of_nonneg (by omega)]; omega
   have e2:(p:Int).tmod 8=((p % 8:Nat):Int):=by rw [Int.tmod_eq_emod_of_nonneg (by omega)]; omega
   have hu:(b.getD (p / 8) 0).toNat<256:=(b.getD (p / 8) 0).toNat_lt
   simp only [c_r3bit,c1,e1,Int.toNat_natCast,Bs_len,go_sem,reduceDiv,reduceMod,↓reduceIte,reduceSub,reduceAdd,reduceLeDiff,reduceCtorEq,Int.reduceNe]
   refine ⟨by (first | omega | (simp only [inI]; omega)),by (first | omega | (simp only [inI]; omega)),⟨by omega,by omega⟩,by (first | omega | (simp only [inI]; omega)),?_⟩
   generalize hc:(b.getD (p / 8) 0).toNat=c at *
   refine loop2P [] [0,3,4] [0,1] (fun i:Nat=>⟨[(0,.ref 0 0 0),(3,.int .i64 ((c / 2 ^ i:Nat):Int)),(4,.int .i64 (i:Int))],[.cells t [(1,.sl 1 (Bs b)),(1,.int .i64 (p:Int)),(1,.own 1 v),(1,.int .i64 m),(1,.int .i64 0)],.row et es rv ys]⟩) (fun i=>i≤p % 8) (fun i=>p % 8 - i) 0 (by simp only [Nat.pow_zero,Nat.div_one]; rfl) (Nat.zero_le _) ⟨rfl,by rfl⟩ (fun i hi R hR=>?_)
   by_cases hil:i<p % 8
   ·have c2:decide ((i:Int)<((p % 8:Nat):Int))=true:=decide_eq_true (by omega)
    simp only [b_r3bit_0,c2,e2,half_nat,go_sem,reduceDiv,reduceMod,↓reduceIte,reduceSub,reduceAdd,reduceCtorEq,Int.reduceNe]
    have hv:c / 2 ^ (i+1)≤c:=Nat.div_le_self _ _
    have hv0:(0:Int)≤((c / 2 ^ (i+1):Nat):Int):=Int.natCast_nonneg _
    have hv1:((c / 2 ^ (i+1):Nat):Int)≤256:=by
     generalize c / 2 ^ (i+1)=z at hv
     omega
    exact ⟨⟨Int.le_trans (by decide) hv0,Int.le_trans hv1 (by decide)⟩,by (first | omega | (simp only [inI]; omega)),hR _ (i+1) hil (by omega) rfl⟩
   ·have c2:decide ((i:Int)<((p % 8:Nat):Int))=false:=decide_eq_false (by omega)
    obtain rfl:i=p % 8:=by omega
    have e5:((c / 2 ^ (p % 8):Nat):Int).tmod 2=((c / 2 ^ (p % 8) % 2:Nat):Int):=rfl
    simp only [b_r3bit_0,t_r3bit_0,r_r3bit,c2,e2,e5,go_sem,reduceDiv,reduceMod,↓reduceIte,Nat.reduceBEq,reduceSub,reduceAdd,reduceCtorEq,Int.reduceNe]
    (repeat' apply And.intro)
    all_goals first | omega | (first | omega | (simp only [lenOk,bytesOk,inI,IntKind.bits,List.length_append,Bs_len,List.length_cons,List.length_nil,List.length_map,List.length_take,List.length_drop,List.length_replicate]; omega)) | rfl | trivial
  ·cases hs
 ·cases hs
def r3numS:Spec:=fun xs hp=>match xs,hp with
 | [.ref 0 0 0,.int .i64 n],[.cells t [(1,.sl k ps),(1,.int .i64 a),(1,.own 1 v),(1,.int .i64 m),(1,.int .i64 0)],.row et es rv ys]=>match numE (bitsOf (unB ps)) a.toNat n.toNat with
  | .ok (x,q)=>some ⟨.int .i64 (x:Int),[.cells t [(1,.sl k ps),(1,.int .i64 (q:Int)),(1,.own 1 v),(1,.int .i64 m),(1,.int .i64 0)],.row et es rv ys],inpOk k ps∧0≤a∧0≤n∧n<40⟩
  | .error _=>none
 | _,_=>none
set_option maxRecDepth 8000 in
theorem r3num_ok:FnOk Tryz.prog 33 r3numS:=by
 refine fn_slim2 Tryz.func33 s_r3num (Φ:=phiL [(32,[],r3bitS)]) (phi_cons r3bit_ok (by kernel_rfl) phi_nil) ?_
 intro xs hp r hs hp'
 unfold r3numS at hs
 split at hs
 ·rename_i n t k ps a v m et es rv ys
  split at hs
  ·rename_i x q hb
   injection hs with hs; subst hs
   obtain ⟨h1,h2,h3,h4⟩:=hp'
   obtain ⟨p,rfl⟩:∃ p:Nat,a=p:=⟨a.toNat,by omega⟩
   obtain ⟨n,rfl⟩:∃ p:Nat,n=p:=⟨n.toNat,by omega⟩
   have hps:=h1.1
   generalize unB ps=b at *
   subst hps
   have hl:=inp_len h1
   simp only [Int.toNat_natCast] at hb
   obtain ⟨hb1,rfl,rfl⟩:=numE_ok hb
   rw [bitsOf_length] at hb1
   refine ⟨len_le (by kernel_rfl),?_⟩
   simp only [c_r3num,go_sem,reduceDiv,reduceMod,reduceAdd]
   refine loop2P [] [0,1,5,6,7] [0,1] (fun i:Nat=>⟨[(0,.ref 0 0 0),(1,.int .i64 (n:Int)),(5,.int .i64 (numB (bitsOf b) p i:Int)),(6,.int .i64 ((2 ^ i:Nat):Int)),(7,.int .i64 (i:Int))],
    [.cells t [(1,.sl k (Bs b)),(1,.int .i64 ((p+i:Nat):Int)),(1,.own 1 v),(1,.int .i64 m),(1,.int .i64 0)],.row et es rv ys]⟩)
    (fun i=>i≤n) (fun i=>n - i) 0 (by rfl) (Nat.zero_le _) ⟨rfl,by rfl⟩ (fun i hi R hR=>?_)
   by_cases hil:i<n
   ·have c1:decide ((i:Int)<(n:Int))=true:=decide_eq_true (by omega)
    have hbit:=numB_bit (b:=b) (p:=p) (n:=i) (by omega)
    have hlt:=numB_lt (bitsOf b) p i
    have h2:2 ^ i≤2 ^ 40:=Nat.pow_le_pow_right (by omega) (by omega)
    have e1:(2:Int) * ((2 ^ i:Nat):Int)=((2 ^ (i+1):Nat):Int):=by rw [Nat.pow_succ]; omega
    have hx:((bitsOf b).getD (p+i) false).toNat<2:=Bool.toNat_lt _
    have e2:(numB (bitsOf b) p i:Int)+((2 ^ i:Nat):Int) * (((bitsOf b).getD (p+i) false).toNat:Int)=(numB (bitsOf b) p (i+1):Int):=by
     rw [show numB (bitsOf b) p (i+1)=numB (bitsOf b) p i+((bitsOf b).getD (p+i) false).toNat * 2 ^ i from rfl,Nat.mul_comm]; push_cast; rfl
    have hm:0≤((2 ^ i:Nat):Int) * (((bitsOf b).getD (p+i) false).toNat:Int)∧((2 ^ i:Nat):Int) * (((bitsOf b).getD (p+i) false).toNat:Int)≤2 ^ 40:=by
     generalize ((bitsOf b).getD (p+i) false).toNat=y at *
     obtain rfl | rfl:y=0∨y=1:=by omega
     ·simp
     ·simp only [Int.natCast_one,Int.mul_one]; omega
    have hlt2:=numB_lt (bitsOf b) p (i+1)
    have h3:2 ^ (i+1)≤2 ^ 40:=Nat.pow_le_pow_right (by omega) (by omega)
    simp only [b_r3num_0,c1,r3bitS,unB_Bs,Int.toNat_natCast,hbit,e1,e2,go_sem,reduceDiv,reduceMod,↓reduceIte,Nat.reduceBEq,Nat.reduceLT,reduceAdd,reduceCtorEq]
    exact ⟨⟨h1,by omega⟩,⟨by omega,by omega⟩,⟨by omega,by omega⟩,⟨by omega,by omega⟩,by (first | omega | (simp only [inI]; omega)),hR _ (i+1) hil (by omega) rfl⟩
   ·have c1:decide ((i:Int)<(n:Int))=false:=decide_eq_false (by omega)
    obtain rfl:i=n:=by omega
    simp only [b_r3num_0,t_r3num_0,r_r3num,c1,go_sem,reduceDiv,reduceMod,↓reduceIte,Nat.reduceBEq,reduceAdd,reduceCtorEq]
  ·cases hs
 ·cases hs
def r3putS:Spec:=fun xs hp=>match xs,hp with
 | [.ref 0 0 0,.int .u8 c],[.cells t [(1,.sl k ps),(1,.int .i64 a),(1,.own 1 v),(1,.int .i64 m),(1,.int .i64 0)],.row 5 1 rv ys]=>some ⟨.tup [],[.cells t [(1,.sl k ps),(1,.int .i64 a),(1,.own 1 (v+1)),(1,.int .i64 m),(1,.int .i64 0)],.row 5 1 (v+1) (Bs (unB ys ++ [UInt8.ofNat c.toNat]))],outOk v rv ys m∧0≤c∧c<256∧((unB ys).length:Int)<m⟩
 | _,_=>none
set_option maxRecDepth 8000 in
theorem r3put_ok:FnOk Tryz.prog 35 r3putS:=by
 refine fn_slim2 Tryz.func35 s_r3put (Φ:=phiL []) phi_nil ?_
 intro xs hp r hs hp'
 unfold r3putS at hs
 split at hs
 ·rename_i c t k ps a v m rv ys
  injection hs with hs; subst hs
  obtain ⟨⟨h1,h2,h3,h4⟩,h5,h6,h7⟩:=hp'
  obtain ⟨c,rfl⟩:=Int.eq_ofNat_of_zero_le h5
  generalize unB ys=o at *
  subst h1 h2
  refine ⟨len_le (by kernel_rfl),?_⟩
  have c1:decide (m≤(o.length:Int))=false:=decide_eq_false (by omega)
  have hc:=byte_B c (by omega)
  simp only [c_r3put,r_r3put,c1,hc,← Bs_append,Int.toNat_natCast,Bs_len,go_sem,reduceDiv,reduceMod,↓reduceIte,Nat.reduceBEq,reduceSub,reduceAdd,reduceLeDiff,reduceCtorEq]
  rw [List.length_append,List.length_singleton]
  exact ⟨by simp only [lenOk]; omega,by simp only [bytesOk]; omega⟩
 ·cases hs
def codesV (ls:List Nat):List AV:=(List.range ls.length).map fun i=>.str (codeL ls i)
def lsT (cs:List AV):List Nat:=cs.map fun v=>match v with
 | .str l=>l.length
 | _=>0
theorem codeL_len (ls:List Nat) (i:Nat):(codeL ls i).length=ls.getD i 0:=by
 unfold codeL
 split
 ·rename_i h; rw [h]; rfl
 ·rw [bitsL_length]
theorem lsT_codes (ls:List Nat):lsT (codesV ls)=ls:=by
 unfold lsT codesV
 rw [List.map_map]
 refine List.ext_getElem (by simp) (fun i h1 h2=>?_)
 simp only [List.getElem_map,List.getElem_range,Function.comp_apply,codeL_len]
 simp [List.getD_eq_getElem?_getD,h2]
theorem codesV_len (ls:List Nat):(codesV ls).length=ls.length:=by simp [codesV]
theorem codesV_get (ls:List Nat) {i:Nat} (h:i<ls.length) (d:AV):(codesV ls).getD i d=.str (codeL ls i):=by
 unfold codesV
 simp [List.getD_eq_getElem?_getD,h]
def someF (ls:List Nat) (got:List UInt8):Nat→Bool
 | 0=>false
 | i+1=>if someF ls got i=true then true else decide (got.length<(codeL ls i).length) && decide ((codeL ls i).take got.length=got)
theorem someF_true {ls:List Nat} {got:List UInt8} {i:Nat} (h1:got.length<(codeL ls i).length) (h2:(codeL ls i).take got.length=got):∀ {k:Nat},i<k→someF ls got k=true
 | 0,h=>by omega
 | k+1,h=>by
  unfold someF
  by_cases hs:someF ls got k=true
  ·rw [if_pos hs]
  ·rw [if_neg hs]
   rcases Nat.lt_or_ge i k with hk | hk
   ·exact absurd (someF_true h1 h2 hk) hs
   ·obtain rfl:i=k:=by omega
    simp [h1,h2]
theorem bitsL_snoc (j n y:Nat) (hy:y<2):bitsL (j+1) (2 * n+y)=bitsL j n ++ [if y=1 then 49 else 48]:=by
 rw [bitsL,show (2 * n+y) / 2=n by omega,show (2 * n+y) % 2=y by omega]
def r3signS:Spec:=fun xs hp=>match xs,hp with
 | [.ref 0 0 0,.sl 1 cs],[.cells t [(1,.sl k ps),(1,.int .i64 a),(1,.own 1 v),(1,.int .i64 m),(1,.int .i64 0)],.row et es rv ys]=>match signE (lsT cs) (bitsOf (unB ps)) a.toNat with
  | .ok (x,q)=>some ⟨.int .i64 (x:Int),[.cells t [(1,.sl k ps),(1,.int .i64 (q:Int)),(1,.own 1 v),(1,.int .i64 m),(1,.int .i64 0)],.row et es rv ys],inpOk k ps∧0≤a∧cs=codesV (lsT cs)∧krL (lsT cs) 15=32768∧cs.length≤1000⟩
  | .error _=>none
 | _,_=>none
structure R3I where
 j:Nat
 n:Nat
set_option maxRecDepth 8000 in
set_option maxHeartbeats 1000000 in
theorem r3sign_ok:FnOk Tryz.prog 84 r3signS:=by
 refine fn_slim2 Tryz.func84 s_r3sign (Φ:=phiL [(32,[],r3bitS)]) (phi_cons r3bit_ok (by kernel_rfl) phi_nil) ?_
 intro xs hp r hs hp'
 unfold r3signS at hs
 split at hs
 ·rename_i cs t k ps a v m et es rv ys
  split at hs
  ·rename_i x q hb
   injection hs with hs; subst hs
   obtain ⟨h1,h2,h3,h4,h5⟩:=hp'
   obtain ⟨p,rfl⟩:∃ p:Nat,a=p:=⟨a.toNat,by omega⟩
   have hps:=h1.1
   generalize unB ps=b at *
   subst hps
   have hl:=inp_len h1
   rw [Int.toNat_natCast] at hb
   generalize lsT cs=ls at *
   subst h3
   rw [codesV_len] at h5
   have hroom:roomL ls:=by unfold roomL; omega
   have hp0:p≤8 * b.length:=by
    rcases bit_cases b p with ⟨_,_,_,h⟩ | ⟨h,_⟩
    ·omega
    ·unfold signE signGo at hb; rw [h] at hb; cases hb
   refine ⟨len_le (by kernel_rfl),?_⟩
   simp only [c_r3sign,go_sem,reduceDiv,reduceMod,reduceAdd]
   refine loop2P [] [0,1,5] [0,1] (fun i:R3I=>⟨[(0,.ref 0 0 0),(1,.sl 1 (codesV ls)),(5,.str (bitsL i.j i.n))],[.cells t [(1,.sl k (Bs b)),(1,.int .i64 ((p+i.j:Nat):Int)),(1,.own 1 v),(1,.int .i64 m),(1,.int .i64 0)],.row et es rv ys]⟩)
    (fun i:R3I=>i.j≤15∧i.n<2 ^ i.j∧krL ls i.j≤i.n∧p+i.j≤8 * b.length∧signE ls (bitsOf b) p=signGo ls (bitsOf b) (15 - i.j) i.j i.n (p+i.j)) (fun i=>15 - i.j) ⟨0,0⟩ (by rfl) ⟨Nat.zero_le _,by decide,Nat.zero_le _,hp0,rfl⟩ ⟨rfl,by rfl⟩ (fun i hi R hR=>?_)
   obtain ⟨j,n⟩:=i
   obtain ⟨i1,i2,i3,i4,i5⟩:=hi
   simp only at i1 i2 i3 i4 i5
   rw [hb] at i5
   have hj:j<15:=by
    rcases Nat.lt_or_ge j 15 with h | h
    ·exact h
    ·rw [show 15 - j=0 by omega] at i5; cases i5
   rcases bit_cases b (p+j) with ⟨y,hy,hbit,hlt⟩ | ⟨hbit,_⟩
   ·have hst:signGo ls (bitsOf b) (15 - j) j n (p+j)=(if 2 * n+y<fstL ls (j+1)+cntL ls (j+1) then .ok ((idxs ls (j+1)).getD (2 * n+y - fstL ls (j+1)) 0,p+j+1) else if totL ls (j+1)=totL ls 15 then .error 4 else signGo ls (bitsOf b) (15 - (j+1)) (j+1) (2 * n+y) (p+j+1)):=by
     rw [show 15 - j=(15 - (j+1))+1 by omega,signGo,hbit]
    rw [hst] at i5
    have hf:=fstL_succ ls j
    have hkr:krL ls (j+1)=fstL ls (j+1)+cntL ls (j+1):=by unfold krL; rw [if_neg (by omega)]
    have hn2:2 * n+y<2 ^ (j+1):=by rw [Nat.pow_succ]; omega
    have hgot:=bitsL_snoc j n y hy
    have hgl:=bitsL_length (j+1) (2 * n+y)
    obtain rfl | rfl:y=0∨y=1:=by omega
    ·have c1:decide (((0:Nat):Int)=1)=false:=by decide
     have e1:bitsL j n ++ [48]=bitsL (j+1) (2 * n+0):=hgot.symm
     clear hgot
     generalize hN:2 * n+0=N at *
     simp only [b_r3sign_1,e1,r3bitS,unB_Bs,Int.toNat_natCast,hbit,go_sem,reduceDiv,reduceMod,↓reduceIte,Nat.reduceBEq,reduceSub,Nat.reduceLT,reduceAdd,reduceLeDiff,reduceCtorEq,Int.reduceEq]
     refine ⟨⟨h1,by omega⟩,by simp only [lenOk,bitsL_length]; omega,?_⟩
     generalize hG:bitsL (j+1) N=G at *
     refine loop2P [] [0,1,5,6,7] [0,1] (fun i:Nat=>⟨[(0,.ref 0 0 0),(1,.sl 1 (codesV ls)),(5,.str G),(6,.bool (someF ls G i)),(7,.int .i64 (i:Int))],[.cells t [(1,.sl k (Bs b)),(1,.int .i64 ((p+j+1:Nat):Int)),(1,.own 1 v),(1,.int .i64 m),(1,.int .i64 0)],.row et es rv ys]⟩) (fun i=>i≤ls.length∧∀ e,e<i→codeL ls e≠G) (fun i=>ls.length - i) 0 (by rfl) ⟨Nat.zero_le _,fun e h=>by omega⟩ ⟨rfl,by rfl⟩ (fun i hi R2 hR2=>?_)
     obtain ⟨a1,a2⟩:=hi
     by_cases hil:i<ls.length
     ·have d1:decide ((i:Int)<(ls.length:Int))=true:=decide_eq_true (by omega)
      have hcl:=codeL_len ls i
      by_cases heq:codeL ls i=G
      ·have d2:decide (codeL ls i=G)=true:=decide_eq_true heq
       have hdec:=(find_code hroom (by omega) (by omega) hn2 i hil).1 (heq.trans hG.symm)
       obtain ⟨b1,b2,b3,b4,b5⟩:=dec_some hdec
       rw [if_pos b2] at i5; injection i5 with i5; injection i5 with f1 f2
       unfold decS at hdec
       rw [if_pos ⟨b1,b2⟩] at hdec
       rw [List.getD_eq_getElem?_getD,hdec] at f1
       simp only [Option.getD_some] at f1
       subst f1 f2
       simp only [b_r3sign_0,r_r3sign,d1,d2,codesV_get ls hil,codesV_len,Int.toNat_natCast,go_sem,reduceDiv,reduceMod,↓reduceIte,Nat.reduceBEq,reduceAdd,reduceCtorEq]
       exact ⟨by omega,by omega⟩
      ·have d2:decide (codeL ls i=G)=false:=decide_eq_false heq
       have a3:∀ e,e<i+1→codeL ls e≠G:=fun e h=>by
        rcases Nat.lt_or_ge e i with h' | h'
        ·exact a2 e h'
        ·obtain rfl:e=i:=by omega
         exact heq
       by_cases hsm:someF ls G i=true
       ·have hs1:someF ls G (i+1)=true:=if_pos hsm
        rw [← hs1] at hsm
        simp only [b_r3sign_0,d1,d2,hsm,hs1,codesV_get ls hil,codesV_len,Int.toNat_natCast,go_sem,reduceDiv,reduceMod,↓reduceIte]
        exact ⟨⟨by omega,by omega⟩,by (first | omega | (simp only [inI]; omega)),hR2 _ (i+1) ⟨by omega,a3⟩ (by omega) (by rw [hs1]; rfl)⟩
       ·have hs1:someF ls G (i+1)=(decide (G.length<(codeL ls i).length) && decide ((codeL ls i).take G.length=G)):=if_neg hsm
        have hsm:=Bool.eq_false_iff.2 hsm
        by_cases hln:G.length<(codeL ls i).length
        ·have d3:decide ((G.length:Int)<((codeL ls i).length:Int))=true:=decide_eq_true (by omega)
         simp only [b_r3sign_0,d1,d2,d3,hsm,codesV_get ls hil,codesV_len,Int.toNat_natCast,go_sem,reduceDiv,reduceMod,↓reduceIte,Int.reduceLE,Int.reduceToNat]
         exact ⟨⟨by omega,by omega⟩,⟨by omega,by omega⟩,⟨by omega,by omega⟩,⟨by omega,by omega⟩,by (first | omega | (simp only [inI]; omega)),hR2 _ (i+1) ⟨by omega,a3⟩ (by omega) (by rw [hs1,decide_eq_true hln,Bool.true_and]; rfl)⟩
        ·have d3:decide ((G.length:Int)<((codeL ls i).length:Int))=false:=decide_eq_false (by omega)
         simp only [b_r3sign_0,d1,d2,d3,hsm,codesV_get ls hil,codesV_len,Int.toNat_natCast,go_sem,reduceDiv,reduceMod,↓reduceIte]
         exact ⟨⟨by omega,by omega⟩,⟨by omega,by omega⟩,by (first | omega | (simp only [inI]; omega)),hR2 _ (i+1) ⟨by omega,a3⟩ (by omega) (by rw [hs1,decide_eq_false hln,Bool.false_and]; rfl)⟩
     ·have d1:decide ((i:Int)<(ls.length:Int))=false:=decide_eq_false (by omega)
      obtain rfl:i=ls.length:=by omega
      have hnf:¬ N<fstL ls (j+1)+cntL ls (j+1):=fun h=>by
       have hd:decS ls (j+1) N=(idxs ls (j+1))[N - fstL ls (j+1)]?:=if_pos ⟨by omega,h⟩
       have hlt2:N - fstL ls (j+1)<(idxs ls (j+1)).length:=by rw [idxs_length]; omega
       rw [List.getElem?_eq_getElem hlt2] at hd
       obtain ⟨_,_,b3,_,_⟩:=dec_some hd
       exact a2 _ b3 (((find_code hroom (by omega) (by omega) hn2 _ b3).2 hd).trans hG)
      rw [if_neg hnf] at i5
      obtain ⟨e,he,hlen,htk⟩:=prefix_some h4 (15 - (j+1)) (j+1) N (by omega) (by omega) hn2 (by omega)
      have hsE:someF ls G ls.length=true:=someF_true (i:=e) (by rw [codeL_len,hgl]; exact hlen) (by rw [hgl,htk,hG]) he
      have i6:signGo ls (bitsOf b) (15 - (j+1)) (j+1) N (p+j+1)=.ok (x,q):=by
       by_cases ht15:totL ls (j+1)=totL ls 15
       ·rw [if_pos ht15] at i5; cases i5
       ·rw [if_neg ht15] at i5; exact i5.symm
      simp only [b_r3sign_0,t_r3sign_0,d1,hsE,codesV_len,go_sem,reduceDiv,reduceMod,↓reduceIte]
      exact hR _ ⟨j+1,N⟩ ⟨by simp only; omega,hn2,by simp only; omega,by simp only; omega,by simp only; rw [hb]; exact i6.symm⟩ (by simp only; omega) (by simp only [hG]; rfl)
    ·have c1:decide (((1:Nat):Int)=1)=true:=by decide
     have e1:bitsL j n ++ [49]=bitsL (j+1) (2 * n+1):=hgot.symm
     clear hgot
     generalize hN:2 * n+1=N at *
     simp only [b_r3sign_1,e1,r3bitS,unB_Bs,Int.toNat_natCast,hbit,go_sem,reduceDiv,reduceMod,↓reduceIte,Nat.reduceBEq,reduceSub,Nat.reduceLT,reduceAdd,reduceLeDiff,reduceCtorEq]
     refine ⟨⟨h1,by omega⟩,by simp only [lenOk,bitsL_length]; omega,?_⟩
     generalize hG:bitsL (j+1) N=G at *
     refine loop2P [] [0,1,5,6,7] [0,1] (fun i:Nat=>⟨[(0,.ref 0 0 0),(1,.sl 1 (codesV ls)),(5,.str G),(6,.bool (someF ls G i)),(7,.int .i64 (i:Int))],[.cells t [(1,.sl k (Bs b)),(1,.int .i64 ((p+j+1:Nat):Int)),(1,.own 1 v),(1,.int .i64 m),(1,.int .i64 0)],.row et es rv ys]⟩) (fun i=>i≤ls.length∧∀ e,e<i→codeL ls e≠G) (fun i=>ls.length - i) 0 (by rfl) ⟨Nat.zero_le _,fun e h=>by omega⟩ ⟨rfl,by rfl⟩ (fun i hi R2 hR2=>?_)
     obtain ⟨a1,a2⟩:=hi
     by_cases hil:i<ls.length
     ·have d1:decide ((i:Int)<(ls.length:Int))=true:=decide_eq_true (by omega)
      have hcl:=codeL_len ls i
      by_cases heq:codeL ls i=G
      ·have d2:decide (codeL ls i=G)=true:=decide_eq_true heq
       have hdec:=(find_code hroom (by omega) (by omega) hn2 i hil).1 (heq.trans hG.symm)
       obtain ⟨b1,b2,b3,b4,b5⟩:=dec_some hdec
       rw [if_pos b2] at i5; injection i5 with i5; injection i5 with f1 f2
       unfold decS at hdec
       rw [if_pos ⟨b1,b2⟩] at hdec
       rw [List.getD_eq_getElem?_getD,hdec] at f1
       simp only [Option.getD_some] at f1
       subst f1 f2
       simp only [b_r3sign_0,r_r3sign,d1,d2,codesV_get ls hil,codesV_len,Int.toNat_natCast,go_sem,reduceDiv,reduceMod,↓reduceIte,Nat.reduceBEq,reduceAdd,reduceCtorEq]
       exact ⟨by omega,by omega⟩
      ·have d2:decide (codeL ls i=G)=false:=decide_eq_false heq
       have a3:∀ e,e<i+1→codeL ls e≠G:=fun e h=>by
        rcases Nat.lt_or_ge e i with h' | h'
        ·exact a2 e h'
        ·obtain rfl:e=i:=by omega
         exact heq
       by_cases hsm:someF ls G i=true
       ·have hs1:someF ls G (i+1)=true:=if_pos hsm
        rw [← hs1] at hsm
        simp only [b_r3sign_0,d1,d2,hsm,hs1,codesV_get ls hil,codesV_len,Int.toNat_natCast,go_sem,reduceDiv,reduceMod,↓reduceIte]
        exact ⟨⟨by omega,by omega⟩,by (first | omega | (simp only [inI]; omega)),hR2 _ (i+1) ⟨by omega,a3⟩ (by omega) (by rw [hs1]; rfl)⟩
       ·have hs1:someF ls G (i+1)=(decide (G.length<(codeL ls i).length) && decide ((codeL ls i).take G.length=G)):=if_neg hsm
        have hsm:=Bool.eq_false_iff.2 hsm
        by_cases hln:G.length<(codeL ls i).length
        ·have d3:decide ((G.length:Int)<((codeL ls i).length:Int))=true:=decide_eq_true (by omega)
         simp only [b_r3sign_0,d1,d2,d3,hsm,codesV_get ls hil,codesV_len,Int.toNat_natCast,go_sem,reduceDiv,reduceMod,↓reduceIte,Int.reduceLE,Int.reduceToNat]
         exact ⟨⟨by omega,by omega⟩,⟨by omega,by omega⟩,⟨by omega,by omega⟩,⟨by omega,by omega⟩,by (first | omega | (simp only [inI]; omega)),hR2 _ (i+1) ⟨by omega,a3⟩ (by omega) (by rw [hs1,decide_eq_true hln,Bool.true_and]; rfl)⟩
        ·have d3:decide ((G.length:Int)<((codeL ls i).length:Int))=false:=decide_eq_false (by omega)
         simp only [b_r3sign_0,d1,d2,d3,hsm,codesV_get ls hil,codesV_len,Int.toNat_natCast,go_sem,reduceDiv,reduceMod,↓reduceIte]
         exact ⟨⟨by omega,by omega⟩,⟨by omega,by omega⟩,by (first | omega | (simp only [inI]; omega)),hR2 _ (i+1) ⟨by omega,a3⟩ (by omega) (by rw [hs1,decide_eq_false hln,Bool.false_and]; rfl)⟩
     ·have d1:decide ((i:Int)<(ls.length:Int))=false:=decide_eq_false (by omega)
      obtain rfl:i=ls.length:=by omega
      have hnf:¬ N<fstL ls (j+1)+cntL ls (j+1):=fun h=>by
       have hd:decS ls (j+1) N=(idxs ls (j+1))[N - fstL ls (j+1)]?:=if_pos ⟨by omega,h⟩
       have hlt2:N - fstL ls (j+1)<(idxs ls (j+1)).length:=by rw [idxs_length]; omega
       rw [List.getElem?_eq_getElem hlt2] at hd
       obtain ⟨_,_,b3,_,_⟩:=dec_some hd
       exact a2 _ b3 (((find_code hroom (by omega) (by omega) hn2 _ b3).2 hd).trans hG)
      rw [if_neg hnf] at i5
      obtain ⟨e,he,hlen,htk⟩:=prefix_some h4 (15 - (j+1)) (j+1) N (by omega) (by omega) hn2 (by omega)
      have hsE:someF ls G ls.length=true:=someF_true (i:=e) (by rw [codeL_len,hgl]; exact hlen) (by rw [hgl,htk,hG]) he
      have i6:signGo ls (bitsOf b) (15 - (j+1)) (j+1) N (p+j+1)=.ok (x,q):=by
       by_cases ht15:totL ls (j+1)=totL ls 15
       ·rw [if_pos ht15] at i5; cases i5
       ·rw [if_neg ht15] at i5; exact i5.symm
      simp only [b_r3sign_0,t_r3sign_0,d1,hsE,codesV_len,go_sem,reduceDiv,reduceMod,↓reduceIte]
      exact hR _ ⟨j+1,N⟩ ⟨by simp only; omega,hn2,by simp only; omega,by simp only; omega,by simp only; rw [hb]; exact i6.symm⟩ (by simp only; omega) (by simp only [hG]; rfl)
   ·rw [show 15 - j=(15 - (j+1))+1 by omega,signGo,hbit] at i5; cases i5
  ·cases hs
 ·cases hs
def tabQ (at_:Nat):List Nat→List Nat
 | []=>[]
 | m :: r=>at_ :: tabQ (at_+2 ^ m) r
theorem tabQ_len:∀ (r:List Nat) (a:Nat),(tabQ a r).length=r.length
 | [],_=>rfl
 | m :: r,a=>by rw [tabQ,List.length_cons,tabQ_len r,List.length_cons]
def unN3 (l:List AV):List Nat:=l.map fun v=>match v with
 | .int _ z=>z.toNat
 | _=>0
theorem unN3_iV (l:List Nat):unN3 (l.map iV)=l:=by
 unfold unN3
 rw [List.map_map]
 conv=>rhs; rw [← List.map_id l]
 apply List.map_congr_left
 intro u _
 simp [iV]
def restQ (each:Nat) (more:List Nat) (i k:Nat):List Nat:=List.replicate (each - k) (more.getD i 0) ++ (more.drop (i+1)).flatMap fun m=>List.replicate each m
def allQ (each:Nat) (more:List Nat):List Nat:=more.flatMap fun m=>List.replicate each m
def r3tabS:Spec:=fun xs hp=>match xs,hp with
 | [.int .i64 f,.int .i64 e,.sl 1 ms],[]=>some ⟨.own 0 (tabQ f.toNat (allQ e.toNat (unN3 ms))).length,[.row 3 1 (tabQ f.toNat (allQ e.toNat (unN3 ms))).length ((tabQ f.toNat (allQ e.toNat (unN3 ms))).map iV)],ms=(unN3 ms).map iV∧0≤f∧0≤e∧f≤1000∧0<e∧e≤10∧ms.length≤20∧0<ms.length∧∀ m∈unN3 ms,m≤13⟩
 | _,_=>none
structure TbI where
 i:Nat
 k:Nat
 a:Nat
 l:List Nat
set_option maxRecDepth 8000 in
theorem r3tab_ok:FnOk Tryz.prog 83 r3tabS:=by
 refine fn_slim2 Tryz.func83 s_r3table (Φ:=phiL []) phi_nil ?_
 intro xs hp r hs hp'
 unfold r3tabS at hs
 split at hs
 ·rename_i f e ms
  injection hs with hs; subst hs
  obtain ⟨h1,h2,h3,h4,h5,h6,h7,h8,h9⟩:=hp'
  obtain ⟨f,rfl⟩:=Int.eq_ofNat_of_zero_le h2
  obtain ⟨e,rfl⟩:=Int.eq_ofNat_of_zero_le h3
  generalize unN3 ms=ml at *
  subst h1
  rw [List.length_map] at h7 h8
  simp only [Int.toNat_natCast]
  generalize hW:tabQ f (allQ e ml)=W
  have hWl:W.length≤200:=by
   rw [← hW,tabQ_len]; unfold allQ
   have:∀ l:List Nat,(l.flatMap fun m=>List.replicate e m).length=l.length * e:=by
    intro l
    induction l with
    | nil=>simp
    | cons x l ih=>rw [List.flatMap_cons,List.length_append,List.length_replicate,ih,List.length_cons,Nat.succ_mul]; omega
   rw [this]
   calc ml.length * e≤20 * 10:=Nat.mul_le_mul h7 (by omega)
    _=200:=rfl
  refine ⟨len_le (by kernel_rfl),?_⟩
  simp only [c_r3table,List.length_map,go_sem,reduceDiv,reduceMod,reduceAdd]
  refine loop2P [(7,3,1)] [0,1,2,7,8,9] [0] (fun i:TbI=>⟨[(0,.int .i64 (f:Int)),(1,.int .i64 (e:Int)),(2,.sl 1 (ml.map iV)),(7,.own 0 i.l.length),(8,.int .i64 (i.a:Int)),(9,.int .i64 (i.i:Int))],[.row 3 1 i.l.length (i.l.map iV)]⟩)
   (fun i=>i.i≤ml.length∧i.l ++ tabQ i.a (allQ e (ml.drop i.i))=W∧i.a≤1000+i.i * 100000) (fun i=>ml.length - i.i) ⟨0,0,f,[]⟩ (by rfl) ⟨Nat.zero_le _,hW,by simp only; omega⟩ ⟨rfl,by rfl⟩ (fun i hi R hR=>?_)
  obtain ⟨i,k0,a,l⟩:=i
  obtain ⟨i1,i2,i3⟩:=hi
  simp only at i1 i2 i3
  by_cases hil:i<ml.length
  ·have c1:decide ((i:Int)<(ml.length:Int))=true:=decide_eq_true (by omega)
   simp only [b_r3table_2,c1,List.length_map,go_sem,reduceDiv,reduceMod,↓reduceIte]
   have hm13:ml.getD i 0≤13:=h9 _ (by rw [List.getD_eq_getElem?_getD,List.getElem?_eq_getElem hil]; exact List.getElem_mem hil)
   have hmi:(ml.map iV).getD i (.int .i64 0)=.int .i64 ((ml.getD i 0:Nat):Int):=by
    simp [List.getD_eq_getElem?_getD,hil,iV]
   have hst:allQ e (ml.drop i)=restQ e ml i 0:=by
    unfold allQ restQ
    rw [List.drop_eq_getElem_cons hil,List.flatMap_cons,Nat.sub_zero]
    simp [List.getD_eq_getElem?_getD,hil]
   rw [hst] at i2
   generalize hmm:ml.getD i 0=mm at *
   refine loop2P [] [0,1,2,7,8,9,10] [0] (fun j:TbI=>⟨[(0,.int .i64 (f:Int)),(1,.int .i64 (e:Int)),(2,.sl 1 (ml.map iV)),(7,.own 0 j.l.length),(8,.int .i64 (j.a:Int)),(9,.int .i64 (i:Int)),(10,.int .i64 (j.k:Int))],[.row 3 1 j.l.length (j.l.map iV)]⟩)
    (fun j=>j.k≤e∧j.l ++ tabQ j.a (restQ e ml i j.k)=W∧j.a≤1000+i * 100000+j.k * 8192) (fun j=>e - j.k) ⟨0,0,a,l⟩ (by rfl) ⟨Nat.zero_le _,i2,by simp only; omega⟩ ⟨rfl,by rfl⟩ (fun j hj R2 hR2=>?_)
   obtain ⟨_,k,a2,l2⟩:=j
   obtain ⟨j1,j2,j3⟩:=hj
   simp only at j1 j2 j3
   by_cases hke:k<e
   ·have c2:decide ((k:Int)<(e:Int))=true:=decide_eq_true (by omega)
    have hrs:restQ e ml i k=mm :: restQ e ml i (k+1):=by
     unfold restQ
     rw [hmm,show e - k=(e - (k+1))+1 by omega,List.replicate_succ,List.cons_append]
    rw [hrs,tabQ] at j2
    have hla:l2.map iV ++ [AV.int .i64 (a2:Int)]=(l2 ++ [a2]).map iV:=by rw [List.map_append]; rfl
    have hlv:l2.length+1=(l2 ++ [a2]).length:=by rw [List.length_append]; rfl
    have hll:l2.length<200:=by
     have:=congrArg List.length j2
     rw [List.length_append,List.length_cons] at this
     omega
    simp only [b_r3table_1,c2,hla,hlv,List.length_map,go_sem,reduceDiv,reduceMod,↓reduceIte,reduceAdd]
    refine ⟨⟨by simp only [lenOk]; omega,by simp only [bytesOk]; omega⟩,?_⟩
    refine loop2P [] [0,1,2,7,8,9,10,11,12] [0] (fun j:Nat=>⟨[(0,.int .i64 (f:Int)),(1,.int .i64 (e:Int)),(2,.sl 1 (ml.map iV)),(7,.own 0 (l2 ++ [a2]).length),(8,.int .i64 (a2:Int)),(9,.int .i64 (i:Int)),(10,.int .i64 (k:Int)),(11,.int .i64 ((2 ^ j:Nat):Int)),(12,.int .i64 (j:Int))],[.row 3 1 (l2 ++ [a2]).length ((l2 ++ [a2]).map iV)]⟩)
     (fun j=>j≤mm) (fun j=>mm - j) 0 (by rfl) (Nat.zero_le _) ⟨rfl,by rfl⟩ (fun j hj R3 hR3=>?_)
    have h2p:2 ^ j≤2 ^ 13:=Nat.pow_le_pow_right (by omega) (by omega)
    have hz:(0:Int)<((2 ^ j:Nat):Int):=by exact_mod_cast Nat.two_pow_pos j
    have hz2:(0:Int)<((2 ^ (j+1):Nat):Int):=by exact_mod_cast Nat.two_pow_pos (j+1)
    by_cases hjm:j<mm
    ·have c3:decide ((j:Int)<(mm:Int))=true:=decide_eq_true (by omega)
     have e1:(2:Int) * ((2 ^ j:Nat):Int)=((2 ^ (j+1):Nat):Int):=by rw [Nat.pow_succ]; omega
     have h2q:2 ^ (j+1)≤2 ^ 13:=Nat.pow_le_pow_right (by omega) (by omega)
     simp only [b_r3table_0,c3,e1,hmi,List.length_map,Int.toNat_natCast,go_sem,reduceDiv,reduceMod,↓reduceIte]
     exact ⟨⟨by omega,by omega⟩,⟨by omega,by omega⟩,by (first | omega | (simp only [inI]; omega)),hR3 _ (j+1) (by omega) (by omega) rfl⟩
    ·have c3:decide ((j:Int)<(mm:Int))=false:=decide_eq_false (by omega)
     obtain rfl:j=mm:=by omega
     simp only [b_r3table_0,t_r3table_0,t_r3table_1,c3,hmi,List.length_map,Int.toNat_natCast,go_sem,reduceDiv,reduceMod,↓reduceIte]
     exact ⟨⟨by omega,by omega⟩,⟨by omega,by omega⟩,by (first | omega | (simp only [inI]; omega)),hR2 _ ⟨0,k+1,a2+2 ^ j,l2 ++ [a2]⟩ ⟨by simp only; omega,by simp only; rw [List.append_assoc]; exact j2,by simp only; omega⟩ (by simp only; omega) rfl⟩
   ·have c2:decide ((k:Int)<(e:Int))=false:=decide_eq_false (by omega)
    obtain rfl:k=e:=by omega
    have hrs:restQ k ml i k=allQ k (ml.drop (i+1)):=by unfold restQ allQ; rw [Nat.sub_self]; rfl
    rw [hrs] at j2
    simp only [b_r3table_1,t_r3table_2,c2,go_sem,reduceDiv,reduceMod,↓reduceIte]
    exact ⟨by (first | omega | (simp only [inI]; omega)),hR _ ⟨i+1,0,a2,l2⟩ ⟨by simp only; omega,j2,by simp only; omega⟩ (by simp only; omega) rfl⟩
  ·have c1:decide ((i:Int)<(ml.length:Int))=false:=decide_eq_false (by omega)
   obtain rfl:i=ml.length:=by omega
   rw [List.drop_length] at i2
   have i4:l=W:=by rw [← i2]; exact (List.append_nil l).symm
   subst i4
   simp only [b_r3table_2,t_r3table_3,r_r3table,c1,List.length_map,go_sem,reduceDiv,reduceMod,↓reduceIte]
 ·cases hs
end Go.Proofs.YtakolikdebfkeaaGreatDoor
