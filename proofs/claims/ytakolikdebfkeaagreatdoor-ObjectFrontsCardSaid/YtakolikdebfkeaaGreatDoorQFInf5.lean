import Derived.Test.YtakolikdebfkeaaGreatDoorQFR3e
import Derived.Test.YtakolikdebfkeaaGreatDoorQAMS
open Nat (reduceDiv reduceMod reduceSub reduceAdd reduceLeDiff reduceEqDiff)
set_option linter.all false
namespace Go.Proofs.YtakolikdebfkeaaGreatDoor
open Go.RowKit
theorem bitE_pos {B:List Bool} {p x q:Nat} (h:bitE B p=.ok (x,q)):q=p+1∧q≤B.length:=by
 unfold bitE at h
 split at h
 ·rename_i b hb
  injection h with h; injection h with e1 e2
  have:=(List.getElem?_eq_some_iff.1 hb).1
  omega
 ·cases h
theorem signGo_pos {ls:List Nat} {B:List Bool} {N:Nat} (h0:0<N) (hN:∀ i∈sgs ls,i<N):∀ {k l n p s q:Nat},k+l=15→signGo ls B k l n p=.ok (s,q)→p<q∧q≤B.length∧s<N
 | 0,l,n,p,s,q,_,h=>by cases h
 | k+1,l,n,p,s,q,hk,h=>by
  unfold signGo at h
  split at h
  ·cases h
  ·rename_i b p' hb
   obtain ⟨h1,h2⟩:=bitE_pos hb
   split at h
   ·rename_i hc
    injection h with h; injection h with e1 e2
    refine ⟨by omega,by omega,?_⟩
    rw [← e1,List.getD_eq_getElem?_getD]
    cases hg:(idxs ls (l+1))[2 * n+b - fstL ls (l+1)]? with
    | none=>exact h0
    | some i =>
     refine hN i ?_
     have hr:2 * n+b - fstL ls (l+1)<cntL ls (l+1):=by
      have:=(List.getElem?_eq_some_iff.1 hg).1
      rw [idxs_length] at this; exact this
     rw [← sgs_get ls (by omega) hr] at hg
     exact List.mem_of_getElem? hg
   ·split at h
    ·cases h
    ·have:=signGo_pos h0 hN (by omega) h
     omega
theorem signE_pos {ls:List Nat} {B:List Bool} {N p s q:Nat} (h0:0<N) (hN:∀ i∈sgs ls,i<N) (h:signE ls B p=.ok (s,q)):p<q∧q≤B.length∧s<N:=signGo_pos h0 hN rfl h
theorem lenE_pos {B:List Bool} {p s n q:Nat} (h:lenE B s p=.ok (n,q)) (hp:p≤B.length):q≤B.length∧n≤1000∧p≤q:=by
 unfold lenE at h
 split at h
 ·injection h with h; injection h with e1 e2; omega
 ·split at h
  ·injection h with h; injection h with e1 e2; omega
  ·split at h
   ·cases h
   ·rename_i h28
    split at h
    ·cases h
    ·rename_i x q' hn
     injection h with h; injection h with e1 e2
     obtain ⟨a1,a2,a3⟩:=numE_ok hn
     have hx:=numB_lt B p ((s - 257) / 4 - 1)
     rw [← a2] at hx
     have h5:(2:Nat) ^ ((s - 257) / 4 - 1)≤2 ^ 6:=Nat.pow_le_pow_right (by omega) (by omega)
     have hm:=shl_le (4+(s - 257) % 4) ((s - 257) / 4 - 1) 6 (by omega)
     omega
theorem distE_pos {B:List Bool} {p s n q:Nat} (h:distE B s p=.ok (n,q)) (hp:p≤B.length):q≤B.length∧0<n∧n≤100000∧p≤q:=by
 unfold distE at h
 split at h
 ·injection h with h; injection h with e1 e2; omega
 ·split at h
  ·cases h
  ·rename_i h28
   split at h
   ·cases h
   ·rename_i x q' hn
    injection h with h; injection h with e1 e2
    obtain ⟨a1,a2,a3⟩:=numE_ok hn
    have hx:=numB_lt B p (s / 2 - 1)
    rw [← a2] at hx
    have h5:(2:Nat) ^ (s / 2 - 1)≤2 ^ 13:=Nat.pow_le_pow_right (by omega) (by omega)
    have hm:=shl_le (2+s % 2) (s / 2 - 1) 13 (by omega)
    omega
theorem copyE_succ (most back n:Nat) (out:List UInt8):copyE most back (n+1) out=match putE most out (out.getD (out.length - back) 0) with
  | .error e=>.error e
  | .ok o=>copyE most back n o:=rfl
theorem copyE_len {most back:Nat}:∀ {n:Nat} {out o:List UInt8},copyE most back n out=.ok o→o.length=out.length+n
 | 0,out,o,h=>by injection h with h; rw [h]; rfl
 | n+1,out,o,h=>by
  rw [copyE_succ] at h
  split at h
  ·cases h
  ·rename_i o' ho
   have:=copyE_len h
   rw [this,(put_len ho).1,List.length_append]; simp; omega
def codeOk (c:AV):Prop:=c=codeV (lsOf c)∧(∀ i∈sgs (lsOf c),i<320)∧(sgs (lsOf c)).length≤1000
theorem sign_agg (ls:List Nat):signE (lsOf (.agg [(16,.blob (cntV ls)),(1,.sl 1 ((sgs ls).map iV))]))=signE ls:=signE_lsOf ls
theorem code_agg (ls:List Nat):AV.agg [(16,.blob (cntV ls)),(1,.sl 1 ((sgs ls).map iV))]=codeV (lsOf (.agg [(16,.blob (cntV ls)),(1,.sl 1 ((sgs ls).map iV))])):=(lsOf_code ls).symm
theorem phSg_ok:PhiOk Tryz.prog (phiL [(154,[],isignS),(153,[],iputS),(155,[],ilenS),(156,[],idistS)]):=phi_cons isign_ok (by kernel_rfl) (phi_cons iput_ok (by kernel_rfl) (phi_cons ilen_ok (by kernel_rfl) (phi_cons idist_ok (by kernel_rfl) phi_nil)))
theorem phSg_px:PhXOk Tryz.prog (phXL [(154,[],isignX),(153,[],iputX),(155,[],ilenX),(156,[],idistX),(128,[],ifailX)]):=phXL_cons isign_px (by kernel_rfl) (phXL_cons iput_px (by kernel_rfl) (phXL_cons ilen_px (by kernel_rfl) (phXL_cons idist_px (by kernel_rfl) (phXL_cons ifail_ok (by kernel_rfl) phXL_nil))))
noncomputable def isignsS:Spec:=fun xs hp=>match xs,hp with
 | [.ref 0 0 0,.agg [(16,.blob cs),(1,.sl 1 sg)],.agg [(16,.blob cd),(1,.sl 1 sd)]],[.cells t [(1,.sl k ps),(1,.int .i64 a),(1,.own 1 v),(1,.int .i64 m)],.row 5 1 rv ys]=>match signsE (lsOf (.agg [(16,.blob cs),(1,.sl 1 sg)])) (lsOf (.agg [(16,.blob cd),(1,.sl 1 sd)])) (bitsOf (unB ps)) m.toNat ((bitsOf (unB ps)).length+1) a.toNat (unB ys) with
  | .ok (o,q)=>some ⟨.tup [],[.cells t [(1,.sl k ps),(1,.int .i64 (q:Int)),(1,.own 1 (v+(o.length - ys.length))),(1,.int .i64 m)],.row 5 1 (v+(o.length - ys.length)) (Bs o)],inpOk k ps∧0≤a∧a≤8 * ((unB ps).length:Int)∧outOk v rv ys m∧codeOk (.agg [(16,.blob cs),(1,.sl 1 sg)])∧codeOk (.agg [(16,.blob cd),(1,.sl 1 sd)])⟩
  | .error _=>none
 | _,_=>none
noncomputable def isignsX:XSpec:=fun xs hp=>match xs,hp with
 | [.ref 0 0 0,.agg [(16,.blob cs),(1,.sl 1 sg)],.agg [(16,.blob cd),(1,.sl 1 sd)]],[.cells t [(1,.sl k ps),(1,.int .i64 a),(1,.own 1 v),(1,.int .i64 m)],.row 5 1 rv ys]=>match signsE (lsOf (.agg [(16,.blob cs),(1,.sl 1 sg)])) (lsOf (.agg [(16,.blob cd),(1,.sl 1 sd)])) (bitsOf (unB ps)) m.toNat ((bitsOf (unB ps)).length+1) a.toNat (unB ys) with
  | .ok _=>none
  | .error e=>some (wrongV e,inpOk k ps∧0≤a∧a≤8 * ((unB ps).length:Int)∧outOk v rv ys m∧(unB ys).length≤100000000∧codeOk (.agg [(16,.blob cs),(1,.sl 1 sg)])∧codeOk (.agg [(16,.blob cd),(1,.sl 1 sd)]))
 | _,_=>none
theorem codeOk_of {cs:List Value} {sg:List AV} (h:codeOk (.agg [(16,.blob cs),(1,.sl 1 sg)])):∃ ls,cs=cntV ls∧sg=(sgs ls).map iV∧(∀ i∈sgs ls,i<320)∧totL ls 15≤1000∧lsOf (.agg [(16,.blob cs),(1,.sl 1 sg)])=ls:=by
 obtain ⟨h1,h2,h3⟩:=h
 refine ⟨lsOf (.agg [(16,.blob cs),(1,.sl 1 sg)]),?_⟩
 generalize lsOf (.agg [(16,.blob cs),(1,.sl 1 sg)])=ls at *
 unfold codeV at h1
 simp only [AV.agg.injEq,List.cons.injEq,Prod.mk.injEq,true_and,AV.blob.injEq,AV.sl.injEq,and_true] at h1
 exact ⟨h1.1,h1.2,h2,by rw [← sgs_len]; exact h3,rfl⟩
structure SsI where
 f:Nat
 p:Nat
 out:List UInt8
 vr:Nat
structure CpI where
 i:Nat
 out:List UInt8
set_option maxHeartbeats 1000000 in
set_option maxRecDepth 8000 in
theorem isigns_ok:FnOk Tryz.prog 125 isignsS:=by
 refine fn_slim2A Tryz.func125 s_isigns phSg_ok ?_
 intro xs hp r hs hp'
 unfold isignsS at hs
 split at hs
 ·rename_i cs sg cd sd t k ps a v m rv ys
  split at hs
  ·rename_i o q hb
   injection hs with hs; subst hs
   obtain ⟨h1,h2,h2',⟨h3,rfl,h4,h5⟩,hc,hd⟩:=hp'
   obtain ⟨ls,rfl,rfl,hl1,hl2,hl3⟩:=codeOk_of hc
   obtain ⟨ds,rfl,rfl,hd1,hd2,hd3⟩:=codeOk_of hd
   rw [hl3,hd3] at hb
   obtain ⟨p,rfl⟩:∃ p:Nat,a=p:=⟨a.toNat,by omega⟩
   obtain ⟨mo,rfl⟩:∃ p:Nat,m=p:=⟨m.toNat,by omega⟩
   generalize unB ys=out at *
   subst h3
   rw [Bs_len]
   have hps:=h1.1
   generalize unB ps=b at *
   subst hps
   have hl:=inp_len h1
   rw [Int.toNat_natCast,Int.toNat_natCast] at hb
   refine ⟨len_le (by kernel_rfl),?_⟩
   simp only [c_isigns,go_sem,reduceDiv,reduceMod,↓reduceIte,reduceAdd]
   refine loop2P [] [0,4,5] [0,1,2,3] (fun i:SsI=>⟨[(0,.ref 0 0 0),(4,.ref 2 0 0),(5,.ref 3 0 0)],[.cells t [(1,.sl k (Bs b)),(1,.int .i64 (i.p:Int)),(1,.own 1 i.vr),(1,.int .i64 (mo:Int))],.row 5 1 i.vr (Bs i.out),.cells 189 [(16,.blob (cntV ls)),(1,.sl 1 ((sgs ls).map iV))],.cells 189 [(16,.blob (cntV ds)),(1,.sl 1 ((sgs ds).map iV))]]⟩) (fun i=>i.p≤8 * b.length∧signsE ls ds (bitsOf b) mo i.f i.p i.out=.ok (o,q)∧out.length≤i.out.length∧i.vr=v+(i.out.length - out.length)) (fun i=>i.f) ⟨(bitsOf b).length+1,p,out,v⟩ (by rfl) ⟨by simp only; omega,hb,Nat.le_refl _,by simp⟩ ⟨rfl,by rfl⟩ (fun i hi R hR=>?_)
   obtain ⟨f,p,o1,vr⟩:=i
   obtain ⟨i0,i1,i2,i3⟩:=hi
   simp only at i0 i1 i2 i3
   cases f with
   | zero=>cases i1
   | succ f =>
    rw [signsE_succ] at i1
    unfold signK at i1
    split at i1
    ·cases i1
    ·rename_i s p1 hs1
     obtain ⟨s1,s2,s3⟩:=signE_pos (by omega) hl1 hs1
     rw [bitsOf_length] at s2
     split at i1
     ·rename_i hs256
      split at i1
      ·cases i1
      ·rename_i o2 ho2
       have hw:IntKind.u8.wrap (s:Int)=(s:Int):=by rw [IntKind.wrap_u8']; omega
       have c1:decide ((s:Int)<256)=true:=decide_eq_true (by omega)
       have hln:=put_len ho2
       simp only [b_isigns_1,isignS,iputS,sign_agg,unB_Bs,Int.toNat_natCast,hs1,ho2,c1,hw,go_sem,reduceDiv,reduceMod,↓reduceIte,reduceEqDiff,Nat.reduceBEq,reduceSub,Nat.reduceLT,reduceAdd,reduceLeDiff,reduceCtorEq]
       have hb8:(s:Int).toNat=s:=Int.toNat_natCast s
       refine ⟨⟨h1,by omega,code_agg ls,by rw [sgs_len]; omega⟩,⟨⟨by rw [unB_Bs],rfl,h4,h5⟩,by omega,by omega⟩,hR _ ⟨f,p1,o2,vr+1⟩ ⟨by simp only; omega,i1,by simp only; rw [hln.1,List.length_append]; simp; omega,by simp only; rw [hln.1,List.length_append]; simp; omega⟩ (by simp only; omega) rfl⟩
     ·rename_i hs256
      have c1:decide ((s:Int)<256)=false:=decide_eq_false (by omega)
      split at i1
      ·rename_i he
       injection i1 with i1; injection i1 with e1 e2; subst e1 e2
       have c2:decide ((s:Int)=256)=true:=decide_eq_true (by omega)
       subst i3
       simp only [b_isigns_1,r_isigns,isignS,sign_agg,unB_Bs,Int.toNat_natCast,hs1,c1,c2,go_sem,reduceDiv,reduceMod,↓reduceIte,Nat.reduceBEq,reduceSub,Nat.reduceLT,reduceAdd,reduceLeDiff,reduceCtorEq]
       refine ⟨h1,by omega,code_agg ls,by rw [sgs_len]; omega⟩
      ·rename_i hne
       have c2:decide ((s:Int)=256)=false:=decide_eq_false (by omega)
       split at i1
       ·cases i1
       ·rename_i n p2 hl2'
        have hp2:=lenE_pos hl2' (by rw [bitsOf_length]; omega)
        rw [bitsOf_length] at hp2
        split at i1
        ·cases i1
        ·rename_i htd
         have c3:decide ((totL ds 15:Int)=0)=false:=decide_eq_false (by omega)
         split at i1
         ·cases i1
         ·rename_i d p3 hd3'
          obtain ⟨d1,d2,d3⟩:=signE_pos (by omega) hd1 hd3'
          rw [bitsOf_length] at d2
          split at i1
          ·cases i1
          ·rename_i back p4 hd4
           have hp4:=distE_pos hd4 (by rw [bitsOf_length]; omega)
           rw [bitsOf_length] at hp4
           split at i1
           ·cases i1
           ·rename_i hbk
            have c4:decide ((o1.length:Int)<(back:Int))=false:=decide_eq_false (by omega)
            split at i1
            ·cases i1
            ·rename_i o2 ho2
             have hcl:=copyE_len ho2
             simp only [b_isigns_1,isignS,ilenS,lenD_eq,idistS,sign_agg,unB_Bs,Bs_len,Int.toNat_natCast,List.length_map,sgs_len,hs1,hl2',hd3',hd4,c1,c2,c3,c4,go_sem,reduceDiv,reduceMod,↓reduceIte,reduceEqDiff,Nat.reduceBEq,reduceSub,Nat.reduceLT,reduceAdd,reduceLeDiff,reduceCtorEq]
             refine ⟨⟨h1,by omega,code_agg ls,hl2⟩,⟨h1,by omega,by omega,by omega⟩,⟨h1,by omega,code_agg ds,hd2⟩,⟨h1,by omega,by omega,by omega⟩,?_⟩
             refine loop2P [] [0,4,5,8,37,38] [0,1,2,3] (fun i:CpI=>⟨[(0,.ref 0 0 0),(4,.ref 2 0 0),(5,.ref 3 0 0),(8,.int .i64 (back:Int)),(37,.int .i64 (n:Int)),(38,.int .i64 (i.i:Int))],[.cells t [(1,.sl k (Bs b)),(1,.int .i64 (p4:Int)),(1,.own 1 (vr+i.i)),(1,.int .i64 (mo:Int))],.row 5 1 (vr+i.i) (Bs i.out),.cells 189 [(16,.blob (cntV ls)),(1,.sl 1 ((sgs ls).map iV))],.cells 189 [(16,.blob (cntV ds)),(1,.sl 1 ((sgs ds).map iV))]]⟩) (fun i=>i.i≤n∧copyE mo back (n - i.i) i.out=.ok o2∧i.out.length=o1.length+i.i) (fun i=>n - i.i) ⟨0,o1⟩ (by rfl) ⟨Nat.zero_le _,ho2,rfl⟩ ⟨rfl,by rfl⟩ (fun i hi R2 hR2=>?_)
             obtain ⟨i,o3⟩:=i
             obtain ⟨j1,j2,j3⟩:=hi
             simp only at j1 j2 j3
             by_cases hin:i<n
             ·have c5:decide ((i:Int)<(n:Int))=true:=decide_eq_true (by omega)
              rw [show n - i=(n - (i+1))+1 by omega,copyE_succ] at j2
              split at j2
              ·cases j2
              ·rename_i o4 ho4
               have hln:=put_len ho4
               have e6:((o3.length:Int) - (back:Int)).toNat=o3.length - back:=by omega
               have hu:=(o3.getD (o3.length - back) 0).toNat_lt
               simp only [b_isigns_0,iputS,c5,e6,UInt8.ofNat_toNat,unB_Bs,Bs_len,Int.toNat_natCast,ho4,go_sem,reduceDiv,reduceMod,↓reduceIte,reduceEqDiff,Nat.reduceBEq,reduceSub,Nat.reduceLT,reduceAdd,reduceLeDiff,reduceCtorEq]
               refine ⟨by (first | omega | (simp only [inI]; omega)),by omega,by omega,⟨⟨by rw [unB_Bs],rfl,h4,h5⟩,by omega,by omega⟩,by (first | omega | (simp only [inI]; omega)),hR2 _ ⟨i+1,o4⟩ ⟨by simp only; omega,j2,by simp only; rw [hln.1,List.length_append]; simp; omega⟩ (by simp only; omega) rfl⟩
             ·have c5:decide ((i:Int)<(n:Int))=false:=decide_eq_false (by omega)
              obtain rfl:i=n:=by omega
              rw [Nat.sub_self] at j2
              injection j2 with j2; subst j2
              simp only [b_isigns_0,c5,go_sem,reduceDiv,reduceMod,↓reduceIte]
              refine hR _ ⟨f,p4,o3,vr+i⟩ ⟨by simp only; omega,i1,by simp only; omega,by simp only; omega⟩ (by simp only; omega) rfl
  ·cases hs
 ·cases hs
set_option maxHeartbeats 2000000 in
set_option maxRecDepth 8000 in
theorem isigns_px:FnPX Tryz.prog 125 isignsX:=by
 refine fn_slimX Tryz.func125 s_isigns phSg_ok phSg_px ?_
 intro xs hp x0 p0 hs hp'
 unfold isignsX at hs
 split at hs
 ·rename_i cs sg cd sd t k ps a v m rv ys
  split at hs
  ·cases hs
  ·rename_i e hb
   injection hs with hs; injection hs with e1 e2; subst e1 e2
   obtain ⟨h1,h2,h2',⟨h3,rfl,h4,h5⟩,h6,hc,hd⟩:=hp'
   obtain ⟨ls,rfl,rfl,hl1,hl2,hl3⟩:=codeOk_of hc
   obtain ⟨ds,rfl,rfl,hd1,hd2,hd3⟩:=codeOk_of hd
   rw [hl3,hd3] at hb
   obtain ⟨p,rfl⟩:∃ p:Nat,a=p:=⟨a.toNat,by omega⟩
   obtain ⟨mo,rfl⟩:∃ p:Nat,m=p:=⟨m.toNat,by omega⟩
   generalize unB ys=out at *
   subst h3
   have hps:=h1.1
   generalize unB ps=b at *
   subst hps
   have hl:=inp_len h1
   rw [Int.toNat_natCast,Int.toNat_natCast] at hb
   refine ⟨len_le (by kernel_rfl),?_⟩
   simp only [c_isigns,go_sem,reduceDiv,reduceMod,↓reduceIte,reduceAdd]
   refine loop3P [] [0,4,5] [0,1,2,3] (fun i:SsI=>⟨[(0,.ref 0 0 0),(4,.ref 2 0 0),(5,.ref 3 0 0)],[.cells t [(1,.sl k (Bs b)),(1,.int .i64 (i.p:Int)),(1,.own 1 i.vr),(1,.int .i64 (mo:Int))],.row 5 1 i.vr (Bs i.out),.cells 189 [(16,.blob (cntV ls)),(1,.sl 1 ((sgs ls).map iV))],.cells 189 [(16,.blob (cntV ds)),(1,.sl 1 ((sgs ds).map iV))]]⟩) (fun i=>i.p≤8 * b.length∧8 * b.length+1≤i.p+i.f∧signsE ls ds (bitsOf b) mo i.f i.p i.out=.error e∧i.out.length≤100000000) (fun i=>i.f) ⟨(bitsOf b).length+1,p,out,v⟩ (by rfl) ⟨by simp only; omega,by simp only; rw [bitsOf_length]; omega,hb,h6⟩ ⟨rfl,by rfl⟩ (fun i hi R hR=>?_)
   obtain ⟨f,p,o1,vr⟩:=i
   obtain ⟨i0,i3,i1,i2⟩:=hi
   simp only at i0 i1 i2 i3
   cases f with
   | zero=>omega
   | succ f =>
    rw [signsE_succ] at i1
    unfold signK at i1
    split at i1
    ·rename_i e' hs1
     injection i1 with i1; subst i1
     simp only [b_isigns_1,isignX,wrongV,sign_agg,unB_Bs,Int.toNat_natCast,hs1,go_sem,reduceDiv,reduceMod,↓reduceIte,Nat.reduceBEq,reduceSub,reduceAdd,reduceLeDiff,reduceCtorEq]
     exact ⟨h1,by omega,by omega,code_agg ls,by rw [sgs_len]; omega⟩
    ·rename_i s p1 hs1
     obtain ⟨s1,s2,s3⟩:=signE_pos (by omega) hl1 hs1
     rw [bitsOf_length] at s2
     have hcl:inpOk k (Bs b)∧0≤(p:Int)∧AV.agg [(16,AV.blob (cntV ls)),(1,AV.sl 1 (List.map iV (sgs ls)))]=codeV (lsOf (AV.agg [(16,AV.blob (cntV ls)),(1,AV.sl 1 (List.map iV (sgs ls)))]))∧totL ls 15≤1000:=⟨h1,by omega,code_agg ls,hl2⟩
     split at i1
     ·rename_i hs256
      have c1:decide ((s:Int)<256)=true:=decide_eq_true (by omega)
      have hw:IntKind.u8.wrap (s:Int)=(s:Int):=by rw [IntKind.wrap_u8']; omega
      split at i1
      ·rename_i e' ho2
       injection i1 with i1; subst i1
       simp only [b_isigns_1,isignS,isignX,iputX,wrongV,sign_agg,unB_Bs,Int.toNat_natCast,sgs_len,hs1,ho2,c1,hw,go_sem,reduceDiv,reduceMod,↓reduceIte,reduceEqDiff,Nat.reduceBEq,reduceSub,Nat.reduceLT,reduceAdd,reduceLeDiff,reduceCtorEq]
       refine ⟨hcl,⟨by rw [unB_Bs],rfl,h4,h5⟩,by omega⟩
      ·rename_i o2 ho2
       have hln:=put_len ho2
       simp only [b_isigns_1,isignS,isignX,iputS,iputX,sign_agg,unB_Bs,Int.toNat_natCast,sgs_len,hs1,ho2,c1,hw,go_sem,reduceDiv,reduceMod,↓reduceIte,reduceEqDiff,Nat.reduceBEq,reduceSub,Nat.reduceLT,reduceAdd,reduceLeDiff,reduceCtorEq]
       refine ⟨hcl,⟨⟨by rw [unB_Bs],rfl,h4,h5⟩,by omega,by omega⟩,hR _ ⟨f,p1,o2,vr+1⟩ ⟨by simp only; omega,by simp only; omega,i1,by simp only; rw [hln.1,List.length_append]; simp; omega⟩ (by simp only; omega) rfl⟩
     ·rename_i hs256
      have c1:decide ((s:Int)<256)=false:=decide_eq_false (by omega)
      split at i1
      ·cases i1
      ·rename_i hne
       have c2:decide ((s:Int)=256)=false:=decide_eq_false (by omega)
       have hli:lenIn (s:Int):=⟨by omega,by omega⟩
       split at i1
       ·rename_i e' hl2'
        injection i1 with i1; subst i1
        simp only [b_isigns_1,isignS,isignX,ilenX,lenD_eq,wrongV,sign_agg,unB_Bs,Int.toNat_natCast,sgs_len,hs1,hl2',c1,c2,go_sem,reduceDiv,reduceMod,↓reduceIte,reduceEqDiff,Nat.reduceBEq,reduceSub,Nat.reduceLT,reduceAdd,reduceLeDiff,reduceCtorEq]
        exact ⟨hcl,h1,by omega,by omega,hli⟩
       ·rename_i n p2 hl2'
        have hp2:=lenE_pos hl2' (by rw [bitsOf_length]; omega)
        rw [bitsOf_length] at hp2
        split at i1
        ·rename_i htd
         injection i1 with i1; subst i1
         have c3:decide ((totL ds 15:Int)=0)=true:=decide_eq_true (by omega)
         simp only [b_isigns_1,isignS,isignX,ilenS,ilenX,ifailX,lenD_eq,wrongV,sign_agg,unB_Bs,Int.toNat_natCast,sgs_len,hs1,hl2',c1,c2,c3,go_sem,reduceDiv,reduceMod,↓reduceIte,reduceEqDiff,Nat.reduceBEq,reduceSub,Nat.reduceLT,reduceAdd,reduceLeDiff,reduceCtorEq,Int.reduceLE,Int.reduceToNat]
         exact ⟨hcl,h1,by omega,hli⟩
        ·rename_i htd
         have c3:decide ((totL ds 15:Int)=0)=false:=decide_eq_false (by omega)
         split at i1
         ·rename_i e' hd3'
          injection i1 with i1; subst i1
          simp only [b_isigns_1,isignS,isignX,ilenS,ilenX,lenD_eq,wrongV,sign_agg,unB_Bs,Int.toNat_natCast,sgs_len,hs1,hl2',hd3',c1,c2,c3,go_sem,reduceDiv,reduceMod,↓reduceIte,reduceEqDiff,Nat.reduceBEq,reduceSub,Nat.reduceLT,reduceAdd,reduceLeDiff,reduceCtorEq]
          exact ⟨hcl,⟨h1,by omega,hli⟩,h1,by omega,by omega,code_agg ds,hd2⟩
         ·rename_i d p3 hd3'
          obtain ⟨d1,d2,d3⟩:=signE_pos (by omega) hd1 hd3'
          rw [bitsOf_length] at d2
          split at i1
          ·rename_i e' hd4
           injection i1 with i1; subst i1
           simp only [b_isigns_1,isignS,isignX,ilenS,ilenX,idistX,lenD_eq,wrongV,sign_agg,unB_Bs,Int.toNat_natCast,sgs_len,hs1,hl2',hd3',hd4,c1,c2,c3,go_sem,reduceDiv,reduceMod,↓reduceIte,reduceEqDiff,Nat.reduceBEq,reduceSub,Nat.reduceLT,reduceAdd,reduceLeDiff,reduceCtorEq]
           exact ⟨hcl,⟨h1,by omega,hli⟩,⟨h1,by omega,code_agg ds,hd2⟩,h1,by omega,by omega,by omega,by omega⟩
          ·rename_i back p4 hd4
           have hp4:=distE_pos hd4 (by rw [bitsOf_length]; omega)
           rw [bitsOf_length] at hp4
           split at i1
           ·rename_i hbk
            injection i1 with i1; subst i1
            have c4:decide ((o1.length:Int)<(back:Int))=true:=decide_eq_true (by omega)
            simp only [b_isigns_1,isignS,isignX,ilenS,ilenX,idistS,idistX,ifailX,lenD_eq,wrongV,sign_agg,unB_Bs,Bs_len,Int.toNat_natCast,sgs_len,hs1,hl2',hd3',hd4,c1,c2,c3,c4,go_sem,reduceDiv,reduceMod,↓reduceIte,reduceEqDiff,Nat.reduceBEq,reduceSub,Nat.reduceLT,reduceAdd,reduceLeDiff,reduceCtorEq,Int.reduceLE,Int.reduceToNat]
            exact ⟨hcl,⟨h1,by omega,hli⟩,⟨h1,by omega,code_agg ds,hd2⟩,h1,by omega,by omega,by omega⟩
           ·rename_i hbk
            have c4:decide ((o1.length:Int)<(back:Int))=false:=decide_eq_false (by omega)
            simp only [b_isigns_1,isignS,isignX,ilenS,ilenX,idistS,idistX,lenD_eq,sign_agg,unB_Bs,Bs_len,Int.toNat_natCast,sgs_len,hs1,hl2',hd3',hd4,c1,c2,c3,c4,go_sem,reduceDiv,reduceMod,↓reduceIte,reduceEqDiff,Nat.reduceBEq,reduceSub,Nat.reduceLT,reduceAdd,reduceLeDiff,reduceCtorEq]
            refine ⟨hcl,⟨h1,by omega,hli⟩,⟨h1,by omega,code_agg ds,hd2⟩,⟨h1,by omega,by omega,by omega⟩,?_⟩
            refine loop3P [] [0,4,5,8,37,38] [0,1,2,3] (fun i:CpI=>⟨[(0,.ref 0 0 0),(4,.ref 2 0 0),(5,.ref 3 0 0),(8,.int .i64 (back:Int)),(37,.int .i64 (n:Int)),(38,.int .i64 (i.i:Int))],[.cells t [(1,.sl k (Bs b)),(1,.int .i64 (p4:Int)),(1,.own 1 (vr+i.i)),(1,.int .i64 (mo:Int))],.row 5 1 (vr+i.i) (Bs i.out),.cells 189 [(16,.blob (cntV ls)),(1,.sl 1 ((sgs ls).map iV))],.cells 189 [(16,.blob (cntV ds)),(1,.sl 1 ((sgs ds).map iV))]]⟩) (fun i=>i.i≤n∧(match copyE mo back (n - i.i) i.out with
             | .error e=>(.error e:RdE (List UInt8))
             | .ok o=>signsE ls ds (bitsOf b) mo f p4 o)=.error e∧i.out.length=o1.length+i.i∧i.out.length≤100000000) (fun i=>n - i.i) ⟨0,o1⟩ (by rfl) ⟨Nat.zero_le _,i1,rfl,i2⟩ ⟨rfl,by rfl⟩ (fun i hi R2 hR2=>?_)
            obtain ⟨i,o3⟩:=i
            obtain ⟨j1,j2,j3,j4⟩:=hi
            simp only at j1 j2 j3 j4
            by_cases hin:i<n
            ·have c5:decide ((i:Int)<(n:Int))=true:=decide_eq_true (by omega)
             rw [show n - i=(n - (i+1))+1 by omega,copyE_succ] at j2
             have e6:((o3.length:Int) - (back:Int)).toNat=o3.length - back:=by omega
             have hu:=(o3.getD (o3.length - back) 0).toNat_lt
             split at j2
             ·rename_i e' hj2
              split at hj2
              ·rename_i e'' ho4
               injection hj2 with hj2; subst hj2
               injection j2 with j2; subst j2
               simp only [b_isigns_0,iputX,wrongV,c5,e6,UInt8.ofNat_toNat,unB_Bs,Bs_len,Int.toNat_natCast,ho4,go_sem,reduceDiv,reduceMod,↓reduceIte,reduceEqDiff,Nat.reduceBEq,reduceSub,reduceAdd,reduceLeDiff,reduceCtorEq]
               refine ⟨by (first | omega | (simp only [inI]; omega)),by omega,by omega,⟨by rw [unB_Bs],rfl,h4,h5⟩,by omega⟩
              ·rename_i o4 ho4
               have hln:=put_len ho4
               simp only [b_isigns_0,iputS,iputX,c5,e6,UInt8.ofNat_toNat,unB_Bs,Bs_len,Int.toNat_natCast,ho4,go_sem,reduceDiv,reduceMod,↓reduceIte,reduceEqDiff,Nat.reduceBEq,reduceSub,Nat.reduceLT,reduceAdd,reduceLeDiff,reduceCtorEq]
               refine ⟨by (first | omega | (simp only [inI]; omega)),by omega,by omega,⟨⟨by rw [unB_Bs],rfl,h4,h5⟩,by omega,by omega⟩,by (first | omega | (simp only [inI]; omega)),hR2 _ ⟨i+1,o4⟩ ⟨by simp only; omega,by simp only; rw [hj2]; exact j2,by simp only; rw [hln.1,List.length_append]; simp; omega,by simp only; rw [hln.1,List.length_append]; simp; omega⟩ (by simp only; omega) rfl⟩
             ·rename_i o4 hj2
              split at hj2
              ·cases hj2
              ·rename_i o5 ho4
               have hln:=put_len ho4
               simp only [b_isigns_0,iputS,iputX,c5,e6,UInt8.ofNat_toNat,unB_Bs,Bs_len,Int.toNat_natCast,ho4,go_sem,reduceDiv,reduceMod,↓reduceIte,reduceEqDiff,Nat.reduceBEq,reduceSub,Nat.reduceLT,reduceAdd,reduceLeDiff,reduceCtorEq]
               refine ⟨by (first | omega | (simp only [inI]; omega)),by omega,by omega,⟨⟨by rw [unB_Bs],rfl,h4,h5⟩,by omega,by omega⟩,by (first | omega | (simp only [inI]; omega)),hR2 _ ⟨i+1,o5⟩ ⟨by simp only; omega,by simp only; rw [hj2]; exact j2,by simp only; rw [hln.1,List.length_append]; simp; omega,by simp only; rw [hln.1,List.length_append]; simp; omega⟩ (by simp only; omega) rfl⟩
            ·have c5:decide ((i:Int)<(n:Int))=false:=decide_eq_false (by omega)
             obtain rfl:i=n:=by omega
             rw [Nat.sub_self] at j2
             simp only [copyE] at j2
             simp only [b_isigns_0,c5,go_sem,reduceDiv,reduceMod,↓reduceIte]
             refine hR _ ⟨f,p4,o3,vr+i⟩ ⟨by simp only; omega,by simp only; omega,j2,j4⟩ (by simp only; omega) rfl
 ·cases hs
theorem tot_le (ls:List Nat) (k:Nat):totL ls k≤ls.length:=by
 induction ls with
 | nil =>
  have:∀ k,totL [] k=0:=fun k=>by
   induction k with
   | zero=>rfl
   | succ k ih=>show totL [] k+cntL [] (k+1)=0; rw [ih]; rfl
  rw [this]; exact Nat.zero_le _
 | cons a ls ih =>
  have:∀ k,totL (a :: ls) k=totL ls k+if 0<a∧a≤k then 1 else 0:=fun k=>by
   induction k with
   | zero=>rw [if_neg (by omega)]; rfl
   | succ k ih =>
    show totL (a :: ls) k+cntL (a :: ls) (k+1)=totL ls k+cntL ls (k+1)+_
    unfold cntL
    rw [ih,List.count_cons]
    by_cases h:a=k+1
    ·subst h; rw [if_neg (show ¬(0<k+1∧k+1≤k) by omega),if_pos (show 0<k+1∧k+1≤k+1 by omega)]; simp; omega
    ·have:(a == k+1)=false:=by simpa using h
     rw [this]
     by_cases h1:0<a∧a≤k
     ·rw [if_pos h1,if_pos (show 0<a∧a≤k+1 by omega)]; simp; omega
     ·rw [if_neg h1,if_neg (show ¬(0<a∧a≤k+1) by omega)]; simp
  rw [this,List.length_cons]
  split <;> omega
theorem kr_leT (ls:List Nat):∀ j,j≤15→krL ls j * 2 ^ (15 - j)≤totL ls j * 2 ^ 15
 | 0,_=>by simp [krL,fstL]
 | j+1,h=>by
  have ih:=kr_leT ls j (by omega)
  have e1:krL ls (j+1)=2 * krL ls j+cntL ls (j+1):=by rw [← fstL_succ]; unfold krL; rw [if_neg (by omega)]
  have e2:totL ls (j+1)=totL ls j+cntL ls (j+1):=rfl
  have e3:2 ^ (15 - j)=2 * 2 ^ (15 - (j+1)):=by rw [show 15 - j=15 - (j+1)+1 by omega,Nat.pow_succ]; omega
  have e4:(2:Nat) ^ (15 - (j+1))≤2 ^ 15:=Nat.pow_le_pow_right (by omega) (by omega)
  have e5:=Nat.mul_le_mul_left (cntL ls (j+1)) e4
  rw [e1,e2,Nat.add_mul,Nat.add_mul]
  rw [e3] at ih
  have e6:2 * krL ls j * 2 ^ (15 - (j+1))=krL ls j * (2 * 2 ^ (15 - (j+1))):=by rw [Nat.mul_comm 2,Nat.mul_assoc]
  omega
theorem kr_step (ls:List Nat) {j:Nat} (h:j<15):krL ls j * 2 ^ (15 - j)+cntL ls (j+1) * 2 ^ (15 - (j+1))=krL ls (j+1) * 2 ^ (15 - (j+1)):=by
 have e1:krL ls (j+1)=2 * krL ls j+cntL ls (j+1):=by rw [← fstL_succ]; unfold krL; rw [if_neg (by omega)]
 have e3:2 ^ (15 - j)=2 * 2 ^ (15 - (j+1)):=by rw [show 15 - j=15 - (j+1)+1 by omega,Nat.pow_succ]; omega
 rw [e1,Nat.add_mul,e3,Nat.mul_comm 2 (krL ls j),Nat.mul_assoc]
theorem sgs_lt (ls:List Nat):∀ i∈sgs ls,i<ls.length:=by
 intro i hi
 unfold sgs sgK at hi
 rw [List.mem_flatMap] at hi
 obtain ⟨l,_,h⟩:=hi
 unfold idxs idxU at h
 rw [List.mem_filter,List.mem_range] at h
 exact h.1
def cntP (ls:List Nat) (l c:Nat):List Value:=(List.range 16).map fun j=>Value.int .i64 ((if j=0 then 0 else if j<l then cntL ls j else if j=l then c else 0:Nat):Int)
theorem cntP_len (ls:List Nat) (l c:Nat):(cntP ls l c).length=16:=by simp [cntP]
theorem cntP_at (ls:List Nat) (l c:Nat) {j:Nat} (h:j<16):(cntP ls l c)[j]?=some (Value.int .i64 ((if j=0 then 0 else if j<l then cntL ls j else if j=l then c else 0:Nat):Int)):=by
 unfold cntP
 rw [List.getElem?_map,List.getElem?_range h]; rfl
theorem cntP_get (ls:List Nat) (l c:Nat) {j:Nat} (h:j<16) (d:Value):ofC ((cntP ls l c).getD j d)=.int .i64 ((if j=0 then 0 else if j<l then cntL ls j else if j=l then c else 0:Nat):Int):=by
 rw [List.getD_eq_getElem?_getD,cntP_at ls l c h]; rfl
theorem cntP_get1 (ls:List Nat) {l:Nat} (c:Nat) (h0:0<l) (h:l<16) (d:Value):ofC ((cntP ls l c).getD l d)=.int .i64 (c:Int):=by
 rw [cntP_get ls l c h,if_neg (by omega),if_neg (by omega),if_pos rfl]
theorem cntP_set (ls:List Nat) {l:Nat} (c:Nat) (h0:0<l) (h:l<16):(cntP ls l c).set l (.int .i64 ((c+1:Nat):Int))=cntP ls l (c+1):=by
 refine List.ext_getElem? fun j=>?_
 rw [List.getElem?_set]
 by_cases hj:j<16
 ·rw [cntP_at ls l (c+1) hj]
  by_cases e:l=j
  ·subst e
   rw [if_pos rfl,cntP_len,if_pos h,if_neg (by omega),if_neg (by omega),if_pos rfl]
  ·rw [if_neg e,cntP_at ls l c hj,if_neg (Ne.symm e),if_neg (Ne.symm e)]
 ·rw [if_neg (by omega),List.getElem?_eq_none (by rw [cntP_len]; omega),List.getElem?_eq_none (by rw [cntP_len]; omega)]
theorem cntP_set2 (ls:List Nat) {l:Nat} (c:Nat) (h0:0<l) (h:l<16):(cntP ls l c).set l (.int .i64 ((c:Int)+1))=cntP ls l (c+1):=by
 rw [← cntP_set ls c h0 h]; rfl
theorem sg_more (A:List Nat) (B:List Nat) (i:Nat):(A ++ (B ++ [i])).length=(A ++ B).length+1∧(A ++ (B ++ [i])).map iV=(A ++ B).map iV ++ [.int .i64 (i:Int)]:=by
 rw [← List.append_assoc,List.length_append,List.map_append]
 exact ⟨rfl,rfl⟩
theorem cntP_next (ls:List Nat) (l:Nat):cntP ls l (cntL ls l)=cntP ls (l+1) 0:=by
 unfold cntP
 refine List.map_congr_left fun j _=>?_
 by_cases h0:j=0
 ·rw [if_pos h0,if_pos h0]
 ·rw [if_neg h0,if_neg h0]
  by_cases h1:j<l
  ·rw [if_pos h1,if_pos (by omega)]
  ·rw [if_neg h1]
   by_cases h2:j=l
   ·rw [if_pos h2,if_pos (by omega),h2]
   ·rw [if_neg h2,if_neg (by omega)]; simp
theorem cntP_first (ls:List Nat):List.replicate 16 (Value.int .i64 0)=cntP ls 1 0:=by
 refine List.ext_getElem? fun j=>?_
 by_cases hj:j<16
 ·rw [cntP_at ls 1 0 hj,List.getElem?_replicate,if_pos hj]
  by_cases h0:j=0
  ·rw [if_pos h0]; rfl
  ·rw [if_neg h0,if_neg (by omega)]; simp
 ·rw [List.getElem?_eq_none (by rw [List.length_replicate]; omega),List.getElem?_eq_none (by rw [cntP_len]; omega)]
theorem cntP_last (ls:List Nat):cntP ls 16 0=cntV ls:=by
 unfold cntP cntV
 refine List.map_congr_left fun j hj=>?_
 rw [List.mem_range] at hj
 unfold cnt0
 by_cases h0:j=0
 ·rw [if_pos h0,if_pos h0]
 ·rw [if_neg h0,if_neg h0,if_pos hj]
theorem iV_getD (ls:List Nat) {i:Nat} (h:i<ls.length) (d:AV):(ls.map iV).getD i d=.int .i64 ((ls.getD i 0:Nat):Int):=by
 rw [List.getD_eq_getElem?_getD,List.getD_eq_getElem?_getD,List.getElem?_map,List.getElem?_eq_getElem h]; rfl
def unN (xs:List AV):List Nat:=xs.map fun x=>match x with | .int _ z=>z.toNat | _=>0
theorem unN_iV (ls:List Nat):unN (ls.map iV)=ls:=by
 unfold unN
 rw [List.map_map]
 exact (List.map_congr_left fun i _=>by simp [iV]).trans (List.map_id _)
def lensOk (k:Nat) (xs:List AV):Prop:=xs=(unN xs).map iV∧(k=1∨xs=[])∧(unN xs).length≤320
def imade0S:Spec:=fun xs hp=>match xs,hp with
 | [.sl k ys,.bool lo],[]=>if goodL (unN ys) lo=true then some ⟨.agg [(16,.blob (cntV (unN ys))),(1,.own 0 (sgs (unN ys)).length)],[.row 3 1 (sgs (unN ys)).length ((sgs (unN ys)).map iV)],lensOk k ys⟩ else none
 | _,_=>none
set_option maxHeartbeats 1000000 in
theorem imade0_ok:FnOk Tryz.prog 157 imade0S:=by
 refine fn_slim2 Tryz.func157 s_imade (Φ:=phiL []) phi_nil ?_
 intro xs hp r hs hp'
 unfold imade0S at hs
 split at hs
 ·rename_i k ys lo
  split at hs
  ·rename_i hg
   injection hs with hs; subst hs
   obtain ⟨h1,h2,h3⟩:=hp'
   generalize unN ys=ls at *
   subst h1
   refine ⟨len_le (by kernel_rfl),?_⟩
   simp only [c_imade,go_sem,reduceDiv,reduceMod,reduceAdd]
   refine loop2P [(4161,3,1)] [0,1,4,5,6] [0,1,2] (fun j:Nat=>⟨[(0,.sl k (ls.map iV)),(1,.bool lo),(4,.ref 0 0 0),(5,.ref 1 0 0),(6,.int .i64 ((j+1:Nat):Int))],[.cells 189 [(16,.blob (List.replicate 16 (.int .i64 0))),(1,.con (.slice none 0 0))],.cells 189 [(16,.blob (cntP ls (j+1) 0)),(1,.own 2 (sgK ls j).length)],.row 3 1 (sgK ls j).length ((sgK ls j).map iV)]⟩) (fun j=>j≤15) (fun j=>15 - j) 0 (by rw [← cntP_first]; rfl) (Nat.zero_le _) ⟨rfl,by rfl⟩ (fun j hj R hR=>?_)
   by_cases hj15:j<15
   ·have c1:decide (((j+1:Nat):Int)<16)=true:=decide_eq_true (by omega)
    simp only [b_imade_1,c1,go_sem,reduceDiv,reduceMod,↓reduceIte]
    refine loop2P [] [0,1,4,5,6,16,17,18] [0,1,2] (fun i:Nat=>⟨[(0,.sl k (ls.map iV)),(1,.bool lo),(4,.ref 0 0 0),(5,.ref 1 0 0),(6,.int .i64 ((j+1:Nat):Int)),(16,.sl k (ls.map iV)),(17,.int .i64 (ls.length:Int)),(18,.int .i64 (i:Int))],[.cells 189 [(16,.blob (List.replicate 16 (.int .i64 0))),(1,.con (.slice none 0 0))],.cells 189 [(16,.blob (cntP ls (j+1) ((ls.take i).count (j+1)))),(1,.own 2 (sgK ls j ++ idxU ls (j+1) i).length)],.row 3 1 (sgK ls j ++ idxU ls (j+1) i).length ((sgK ls j ++ idxU ls (j+1) i).map iV)]⟩) (fun i=>i≤ls.length) (fun i=>ls.length - i) 0 (by simp only [List.take_zero,List.count_nil,idxU,List.range_zero,List.filter_nil,List.append_nil]; rfl) (Nat.zero_le _) ⟨rfl,by rfl⟩ (fun i hi R2 hR2=>?_)
    by_cases hil:i<ls.length
    ·have c2:decide ((i:Int)<(ls.length:Int))=true:=decide_eq_true (by omega)
     have hk:k=1:=by
      rcases h2 with h | h
      ·exact h
      ·have:=congrArg List.length h; rw [List.length_map,List.length_nil] at this; omega
     subst hk
     have hge:=iV_getD ls hil
     have hcn:=fun d=>cntP_get1 ls ((ls.take i).count (j+1)) (l:=j+1) (by omega) (by omega) d
     have htc:=take_count ls (j+1) hil
     have hix:=idxU_succ ls (j+1) i
     have hcl:=cntP_len ls (j+1) ((ls.take i).count (j+1))
     have hsl:(sgK ls j ++ idxU ls (j+1) i).length≤1000:=by
      have e1:=sgK_len ls j
      have e2:=tot_le ls j
      have e3:=idxU_length ls (j+1) i (by omega)
      have e4:(ls.take i).count (j+1)≤(ls.take i).length:=List.count_le_length
      rw [List.length_take] at e4
      rw [List.length_append]; omega
     by_cases he:ls.getD i 0=j+1
     ·have c3:decide (((ls.getD i 0:Nat):Int)=((j+1:Nat):Int))=true:=by rw [he]; exact decide_eq_true rfl
      rw [if_pos he] at htc hix
      have hcc:(ls.take i).count (j+1)≤(ls.take i).length:=List.count_le_length
      rw [List.length_take] at hcc
      simp only [b_imade_0,c2,c3,hge,hcn,Int.toNat_natCast,go_sem,reduceDiv,reduceMod,↓reduceIte,reduceSub,reduceAdd,reduceCtorEq]
      refine ⟨by omega,by omega,by omega,by (first | omega | (simp only [inI]; omega)),by omega,by omega,⟨by rw [List.length_append,List.length_map]; simp only [lenOk,List.length_cons,List.length_nil]; omega,by rw [List.length_append,List.length_map]; simp only [bytesOk,List.length_cons,List.length_nil]; omega⟩,by (first | omega | (simp only [inI]; omega)),hR2 _ (i+1) (by omega) (by omega) ?_⟩
      obtain ⟨g1,g2⟩:=sg_more (sgK ls j) (idxU ls (j+1) i) i
      rw [htc,hix,g1,g2,← cntP_set2 ls _ (by omega) (by omega)]
      rfl
     ·have c3:decide (((ls.getD i 0:Nat):Int)=((j+1:Nat):Int))=false:=decide_eq_false (fun h=>he (by exact_mod_cast h))
      rw [if_neg he] at htc hix
      simp only [b_imade_0,c2,c3,hge,Int.toNat_natCast,go_sem,reduceDiv,reduceMod,↓reduceIte]
      refine ⟨by omega,by (first | omega | (simp only [inI]; omega)),hR2 _ (i+1) (by omega) (by omega) ?_⟩
      rw [htc,hix,List.append_nil]
      rfl
    ·have c2:decide ((i:Int)<(ls.length:Int))=false:=decide_eq_false (by omega)
     obtain rfl:i=ls.length:=by omega
     simp only [b_imade_0,t_imade_0,c2,go_sem,reduceDiv,reduceMod,↓reduceIte]
     refine ⟨by (first | omega | (simp only [inI]; omega)),hR _ (j+1) (by omega) (by omega) ?_⟩
     rw [sgK_succ,← cntP_next ls (j+1)]
     show _=some _
     unfold cntL idxs
     rw [List.take_length]
     rfl
   ·have c1:decide (((j+1:Nat):Int)<16)=false:=decide_eq_false (by omega)
    obtain rfl:j=15:=by omega
    have hkr0:((krL ls 0 * 2 ^ (15 - 0):Nat):Int)=0:=by simp [krL,fstL]
    simp only [b_imade_1,t_imade_2,go_sem,reduceDiv,reduceMod,↓reduceIte,reduceAdd,Int.reduceLT]
    refine loop2P [] [1,4,5,9,10] [0,1,2] (fun j:Nat=>⟨[(1,.bool lo),(4,.ref 0 0 0),(5,.ref 1 0 0),(9,.int .i64 ((krL ls j * 2 ^ (15 - j):Nat):Int)),(10,.int .i64 ((j+1:Nat):Int))],[.cells 189 [(16,.blob (List.replicate 16 (.int .i64 0))),(1,.con (.slice none 0 0))],.cells 189 [(16,.blob (cntV ls)),(1,.own 2 (sgs ls).length)],.row 3 1 (sgs ls).length ((sgs ls).map iV)]⟩) (fun j=>j≤15) (fun j=>15 - j) 0 (by rw [hkr0,← cntP_last]; rfl) (Nat.zero_le _) ⟨rfl,by rfl⟩ (fun j hj2 R3 hR3=>?_)
    by_cases hj15:j<15
    ·have c2:decide (((j+1:Nat):Int)<16)=true:=decide_eq_true (by omega)
     have hcv:=fun d=>cntV_get ls (l:=j+1) (by omega) d
     have hc0:cnt0 ls (j+1)=cntL ls (j+1):=if_neg (by omega)
     rw [hc0] at hcv
     have hks:=kr_step ls hj15
     have hkl:=kr_leT ls (j+1) (by omega)
     have htl:=tot_le ls (j+1)
     have e1:(15:Int) - ((j+1:Nat):Int)=((15 - (j+1):Nat):Int):=by omega
     have e2:((cntL ls (j+1):Nat):Int) * 2 ^ (15 - (j+1))=((cntL ls (j+1) * 2 ^ (15 - (j+1)):Nat):Int):=by push_cast; rfl
     simp only [b_imade_2,c2,hcv,e1,e2,Int.toNat_natCast,cntV_len,go_sem,reduceDiv,reduceMod,↓reduceIte,reduceAdd]
     have e3:((krL ls j * 2 ^ (15 - j):Nat):Int)+((cntL ls (j+1) * 2 ^ (15 - (j+1)):Nat):Int)=((krL ls (j+1) * 2 ^ (15 - (j+1)):Nat):Int):=by rw [← hks]; push_cast; rfl
     have e4:cntL ls (j+1) * 2 ^ (15 - (j+1))≤krL ls (j+1) * 2 ^ (15 - (j+1)):=by rw [← hks]; exact Nat.le_add_left _ _
     rw [e3]
     have q1:inI ((krL ls (j+1) * 2 ^ (15 - (j+1)):Nat):Int):=by
      clear hcv e2 e3 hks hc0 hR3 hR
      generalize krL ls (j+1) * 2 ^ (15 - (j+1))=z at *
      (first | omega | (simp only [inI]; omega))
     have q2:inI ((cntL ls (j+1) * 2 ^ (15 - (j+1)):Nat):Int):=by
      clear hcv e2 e3 hks hc0 hR3 hR
      generalize krL ls (j+1) * 2 ^ (15 - (j+1))=z at *
      generalize cntL ls (j+1) * 2 ^ (15 - (j+1))=z2 at *
      (first | omega | (simp only [inI]; omega))
     refine ⟨by omega,by omega,by (first | omega | (simp only [inI]; omega)),⟨by omega,q2⟩,q1,by (first | omega | (simp only [inI]; omega)),hR3 _ (j+1) (by omega) (by omega) rfl⟩
    ·have c2:decide (((j+1:Nat):Int)<16)=false:=decide_eq_false (by omega)
     obtain rfl:j=15:=by omega
     have e1:krL ls 15 * 2 ^ (15 - 15)=krL ls 15:=by simp
     rw [e1]
     have hcv:=fun d=>cntV_get ls (l:=1) (by omega) d
     have hc0:cnt0 ls 1=cntL ls 1:=if_neg (by omega)
     rw [hc0] at hcv
     by_cases k1:krL ls 15=32768
     ·have c4:decide (((krL ls 15:Nat):Int)=32768)=true:=decide_eq_true (by omega)
      simp only [b_imade_2,t_imade_1,r_imade,c4,sgs_len,go_sem,reduceDiv,reduceMod,↓reduceIte,reduceSub,reduceAdd,reduceLeDiff,reduceCtorEq,Int.reduceLT]
     ·have c4:decide (((krL ls 15:Nat):Int)=32768)=false:=decide_eq_false (by omega)
      by_cases k2:totL ls 15=1
      ·have c5:decide (((totL ls 15:Nat):Int)=1)=true:=decide_eq_true (by omega)
       by_cases k3:cntL ls 1=1
       ·have c6:decide (((cntL ls 1:Nat):Int)=1)=true:=decide_eq_true (by omega)
        simp only [b_imade_2,t_imade_1,r_imade,c4,c5,c6,hcv,cntV_len,List.length_map,sgs_len,go_sem,reduceDiv,reduceMod,↓reduceIte,reduceSub,Nat.reduceLT,reduceAdd,reduceLeDiff,reduceCtorEq,Int.reduceLT,Int.reduceLE,Int.reduceToNat]
       ·exfalso; revert hg; simp [goodL,k1,k2,k3]
      ·have c5:decide (((totL ls 15:Nat):Int)=1)=false:=decide_eq_false (by omega)
       cases lo with
       | false=>exfalso; revert hg; simp [goodL,k1,k2]
       | true =>
        by_cases k3:totL ls 15=0
        ·have c6:decide (((totL ls 15:Nat):Int)=0)=true:=decide_eq_true (by omega)
         simp only [b_imade_2,t_imade_1,r_imade,c4,c5,c6,List.length_map,sgs_len,go_sem,reduceDiv,reduceMod,↓reduceIte,reduceSub,reduceAdd,reduceLeDiff,reduceCtorEq,Int.reduceLT]
        ·exfalso; revert hg; simp [goodL,k1,k2,k3]
  ·cases hs
 ·cases hs
theorem fix_at:∀ k,k<288→fixL.getD k 0=fixN k:=by decide +kernel
theorem fixD_at:∀ k,k<32→fixD.getD k 0=5:=by decide +kernel
theorem take_iV (ls:List Nat) {i:Nat} (h:i<ls.length):(ls.take (i+1)).map iV=(ls.take i).map iV ++ [.int .i64 ((ls.getD i 0:Nat):Int)]:=by
 rw [List.take_add_one,List.getElem?_eq_getElem h,List.map_append,List.getD_eq_getElem?_getD,List.getElem?_eq_getElem h]; rfl
theorem take_iV_len (ls:List Nat) {i:Nat} (h:i≤ls.length):((ls.take i).map iV).length=i:=by
 rw [List.length_map,List.length_take]; omega
def ownC (ls:List Nat) (i:Nat):AV:=.agg [(16,.blob (cntV ls)),(1,.own i (sgs ls).length)]
def sgR (ls:List Nat):AObj:=.row 3 1 (sgs ls).length ((sgs ls).map iV)
def ifix0S:Spec:=fun xs hp=>match xs,hp with
 | [],[]=>some ⟨.tup [ownC fixL 0,ownC fixD 1],[sgR fixL,sgR fixD],True⟩
 | _,_=>none
set_option maxHeartbeats 1000000 in
theorem ifix0_ok:FnOk Tryz.prog 126 ifix0S:=by
 refine fn_slim2 Tryz.func126 s_ifix (Φ:=phiL [(157,[],imade0S)]) (phi_cons imade0_ok (by kernel_rfl) phi_nil) ?_
 intro xs hp r hs hp'
 unfold ifix0S at hs
 split at hs
 ·injection hs with hs; subst hs
  refine ⟨len_le (by kernel_rfl),?_⟩
  simp only [c_ifix,go_sem,reduceDiv,reduceMod,reduceAdd]
  refine loop2P [(2,3,1)] [0,1,2,3,5] [0,1,2] (fun i:Nat=>⟨[(0,.ref 0 0 0),(1,.ref 1 0 0),(2,.own 2 i),(3,.con (.slice none 0 0)),(5,.int .i64 (i:Int))],[.cells 189 [(16,.blob (List.replicate 16 (.int .i64 0))),(1,.con (.slice none 0 0))],.cells 189 [(16,.blob (List.replicate 16 (.int .i64 0))),(1,.con (.slice none 0 0))],.row 3 1 i ((fixL.take i).map iV)]⟩) (fun i=>i≤288) (fun i=>288 - i) 0 (by rfl) (Nat.zero_le _) ⟨rfl,by rfl⟩ (fun i hi R hR=>?_)
  by_cases hil:i<288
  ·have c1:decide ((i:Int)<288)=true:=decide_eq_true (by omega)
   have hta:=take_iV fixL (i:=i) (by rw [fix_len]; exact hil)
   have htl:=take_iV_len fixL (i:=i) (by rw [fix_len]; omega)
   rw [fix_at i hil] at hta
   by_cases h1:i<144
   ·have c2:decide ((i:Int)<144)=true:=decide_eq_true (by omega)
    rw [show fixN i=8 by unfold fixN; rw [if_pos h1]] at hta
    simp only [b_ifix_0,c1,c2,go_sem,reduceDiv,reduceMod,↓reduceIte,reduceAdd]
    refine ⟨⟨by rw [List.length_append,htl]; simp only [lenOk,List.length_cons,List.length_nil]; omega,by rw [List.length_append,htl]; simp only [bytesOk,List.length_cons,List.length_nil]; omega⟩,by (first | omega | (simp only [inI]; omega)),hR _ (i+1) (by omega) (by omega) ?_⟩
    rw [hta]; rfl
   ·have c2:decide ((i:Int)<144)=false:=decide_eq_false (by omega)
    by_cases h2:279<i
    ·have c3:decide ((279:Int)<(i:Int))=true:=decide_eq_true (by omega)
     rw [show fixN i=8 by unfold fixN; rw [if_neg h1,if_neg (by omega),if_neg (by omega)]] at hta
     simp only [b_ifix_0,c1,c2,c3,go_sem,reduceDiv,reduceMod,↓reduceIte,reduceAdd]
     refine ⟨⟨by rw [List.length_append,htl]; simp only [lenOk,List.length_cons,List.length_nil]; omega,by rw [List.length_append,htl]; simp only [bytesOk,List.length_cons,List.length_nil]; omega⟩,by (first | omega | (simp only [inI]; omega)),hR _ (i+1) (by omega) (by omega) ?_⟩
     rw [hta]; rfl
    ·have c3:decide ((279:Int)<(i:Int))=false:=decide_eq_false (by omega)
     by_cases h3:i<256
     ·have c4:decide ((i:Int)<256)=true:=decide_eq_true (by omega)
      rw [show fixN i=9 by unfold fixN; rw [if_neg h1,if_pos (by omega)]] at hta
      simp only [b_ifix_0,c1,c2,c3,c4,go_sem,reduceDiv,reduceMod,↓reduceIte,reduceAdd]
      refine ⟨⟨by rw [List.length_append,htl]; simp only [lenOk,List.length_cons,List.length_nil]; omega,by rw [List.length_append,htl]; simp only [bytesOk,List.length_cons,List.length_nil]; omega⟩,by (first | omega | (simp only [inI]; omega)),hR _ (i+1) (by omega) (by omega) ?_⟩
      rw [hta]; rfl
     ·have c4:decide ((i:Int)<256)=false:=decide_eq_false (by omega)
      rw [show fixN i=7 by unfold fixN; rw [if_neg h1,if_neg (by omega),if_pos (by omega)]] at hta
      simp only [b_ifix_0,c1,c2,c3,c4,go_sem,reduceDiv,reduceMod,↓reduceIte,reduceAdd]
      refine ⟨⟨by rw [List.length_append,htl]; simp only [lenOk,List.length_cons,List.length_nil]; omega,by rw [List.length_append,htl]; simp only [bytesOk,List.length_cons,List.length_nil]; omega⟩,by (first | omega | (simp only [inI]; omega)),hR _ (i+1) (by omega) (by omega) ?_⟩
      rw [hta]; rfl
  ·have c1:decide ((i:Int)<288)=false:=decide_eq_false (by omega)
   obtain rfl:i=288:=by omega
   have hfl:fixL.take 288=fixL:=List.take_of_length_le (by rw [fix_len]; omega)
   rw [hfl]
   simp only [b_ifix_0,t_ifix_1,go_sem,reduceDiv,reduceMod,↓reduceIte,Int.reduceLT]
   refine loop2P [(3,3,1)] [0,1,2,3,26] [0,1,2,3] (fun i:Nat=>⟨[(0,.ref 0 0 0),(1,.ref 1 0 0),(2,.own 2 288),(3,.own 3 i),(26,.int .i64 (i:Int))],[.cells 189 [(16,.blob (List.replicate 16 (.int .i64 0))),(1,.con (.slice none 0 0))],.cells 189 [(16,.blob (List.replicate 16 (.int .i64 0))),(1,.con (.slice none 0 0))],.row 3 1 288 (fixL.map iV),.row 3 1 i ((fixD.take i).map iV)]⟩) (fun i=>i≤32) (fun i=>32 - i) 0 (by rfl) (Nat.zero_le _) ⟨rfl,by rfl⟩ (fun i hi R2 hR2=>?_)
   by_cases hil:i<32
   ·have c2:decide ((i:Int)<32)=true:=decide_eq_true (by omega)
    have hta:=take_iV fixD (i:=i) (by rw [fixD_len]; exact hil)
    have htl:=take_iV_len fixD (i:=i) (by rw [fixD_len]; omega)
    rw [fixD_at i hil] at hta
    simp only [b_ifix_1,c2,go_sem,reduceDiv,reduceMod,↓reduceIte,reduceAdd]
    refine ⟨⟨by rw [List.length_append,htl]; simp only [lenOk,List.length_cons,List.length_nil]; omega,by rw [List.length_append,htl]; simp only [bytesOk,List.length_cons,List.length_nil]; omega⟩,by (first | omega | (simp only [inI]; omega)),hR2 _ (i+1) (by omega) (by omega) ?_⟩
    rw [hta]; rfl
   ·have c2:decide ((i:Int)<32)=false:=decide_eq_false (by omega)
    obtain rfl:i=32:=by omega
    have hfd:fixD.take 32=fixD:=List.take_of_length_le (by rw [fixD_len]; omega)
    rw [hfd]
    have g1:goodL fixL false=true:=by unfold goodL; rw [fix_room]; rfl
    have g2:goodL fixD false=true:=by unfold goodL; rw [fixD_room]; rfl
    simp only [b_ifix_1,t_ifix_0,r_ifix,imade0S,unN_iV,g1,g2,ownC,sgR,go_sem,reduceDiv,reduceMod,↓reduceIte,reduceEqDiff,Nat.reduceBEq,reduceSub,Nat.reduceLT,reduceAdd,reduceLeDiff,reduceCtorEq,Int.reduceLT]
    have l1:lensOk 1 (fixL.map iV):=⟨by rw [unN_iV],.inl rfl,by rw [unN_iV,fix_len]; omega⟩
    have l2:lensOk 1 (fixD.map iV):=⟨by rw [unN_iV],.inl rfl,by rw [unN_iV,fixD_len]; omega⟩
    have fl:∀ (ls:List Nat) (x:AV),x∈ls.map iV→∃ i:Nat,x=.int .i64 (i:Int):=fun ls x hx=>by
     obtain ⟨i,_,rfl⟩:=List.mem_map.1 hx
     exact ⟨i,rfl⟩
    refine ⟨⟨l1,fun x hx=>by obtain ⟨i,rfl⟩:=fl _ x hx; rfl⟩,⟨l2,fun x hx=>by obtain ⟨i,rfl⟩:=fl _ x hx; rfl⟩⟩
 ·cases hs
def ifixS:Spec:=fun xs hp=>match xs,hp with
 | [],[]=>some ⟨.tup [codeV fixL,codeV fixD],[],True⟩
 | _,_=>none
theorem ifix_ok:FnOk Tryz.prog 126 ifixS:=ifix0_ok.freezeD fun xs hp r' hs hp' => by
 unfold ifixS at hs
 split at hs
 ·injection hs with hs; subst hs
  refine ⟨rfl,_,rfl,hp',rfl,?_,rfl,rfl⟩
  simp [fzV,fzD,codeV,ownC,sgR]
 ·cases hs
end Go.Proofs.YtakolikdebfkeaaGreatDoor
