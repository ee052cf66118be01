import Derived.Test.YtakolikdebfkeaaGreatDoorQFR3e
import Derived.Test.YtakolikdebfkeaaGreatDoorQAM10
open Nat (reduceDiv reduceMod reduceSub reduceAdd reduceLeDiff reduceEqDiff)
set_option linter.all false
namespace Go.Proofs.YtakolikdebfkeaaGreatDoor
open Go.RowKit
theorem flat_iV (l:List Nat):∀ x,x∈l.map iV→flatB 4 x=true:=by
 intro x hx
 obtain ⟨u,_,rfl⟩:=List.mem_map.1 hx
 rfl
theorem lenE_cases {B:List Bool} {s p n q:Nat} (h:lenE B s p=.ok (n,q)):(s - 257<8∧n=s - 257+3∧q=p)∨(s - 257=28∧n=258∧q=p)∨∃ x,8≤s - 257∧s - 257<28∧numE B p ((s - 257) / 4 - 1)=.ok (x,q)∧n=3+(4+(s - 257) % 4) * 2 ^ ((s - 257) / 4 - 1)+x:=by
 unfold lenE at h
 split at h
 ·rename_i h0
  injection h with h; injection h with a b
  exact .inl ⟨h0,a.symm,b.symm⟩
 ·split at h
  ·rename_i h0
   injection h with h; injection h with a b
   exact .inr (.inl ⟨h0,a.symm,b.symm⟩)
  ·split at h
   ·cases h
   ·split at h
    ·cases h
    ·rename_i x p' hx
     injection h with h; injection h with a b
     subst b
     exact .inr (.inr ⟨x,by omega,by omega,hx,a.symm⟩)
theorem distE_cases {B:List Bool} {s p n q:Nat} (h:distE B s p=.ok (n,q)):(s<4∧n=s+1∧q=p)∨∃ x,4≤s∧s≤29∧numE B p (s / 2 - 1)=.ok (x,q)∧n=1+(2+s % 2) * 2 ^ (s / 2 - 1)+x:=by
 unfold distE at h
 split at h
 ·rename_i h0
  injection h with h; injection h with a b
  exact .inl ⟨h0,a.symm,b.symm⟩
 ·split at h
  ·cases h
  ·split at h
   ·cases h
   ·rename_i x p' hx
    injection h with h; injection h with a b
    subst b
    exact .inr ⟨x,by omega,by omega,hx,a.symm⟩
def lenTab:List Nat:=tabQ 3 (allQ 4 [0,0,1,2,3,4,5])
def distTab:List Nat:=tabQ 1 (allQ 2 [0,0,1,2,3,4,5,6,7,8,9,10,11,12,13])
theorem lenTab_get:∀ k,k<28→lenTab.getD k 0=if k<8 then k+3 else 3+(4+k % 4) * 2 ^ (k / 4 - 1):=by decide
theorem distTab_get:∀ d,d<30→distTab.getD d 0=if d<4 then d+1 else 1+(2+d % 2) * 2 ^ (d / 2 - 1):=by decide
theorem lenTab_len:lenTab.length=28:=by decide
theorem distTab_len:distTab.length=30:=by decide
def tcOk (cs:List AV):Prop:=cs=codesV (lsT cs)∧krL (lsT cs) 15=32768∧cs.length≤1000
noncomputable def r3signsS:Spec:=fun xs hp=>match xs,hp with
 | [.ref 0 0 0,.sl 1 cs,.sl 1 cd,.bool true],[.cells t [(1,.sl k ps),(1,.int .i64 a),(1,.own 1 v),(1,.int .i64 m),(1,.int .i64 0)],.row 5 1 rv ys]=>match signsE (lsT cs) (lsT cd) (bitsOf (unB ps)) m.toNat ((bitsOf (unB ps)).length+1) a.toNat (unB ys) with
  | .ok (o,q)=>some ⟨.tup [],[.cells t [(1,.sl k ps),(1,.int .i64 (q:Int)),(1,.own 1 (v+(o.length - ys.length))),(1,.int .i64 m),(1,.int .i64 0)],.row 5 1 (v+(o.length - ys.length)) (Bs o)],inpOk k ps∧0≤a∧a≤8 * ((unB ps).length:Int)∧outOk v rv ys m∧tcOk cs∧tcOk cd⟩
  | .error _=>none
 | _,_=>none
theorem phR3_ok:PhiOk Tryz.prog (phiL [(84,[],r3signS),(35,[],r3putS),(33,[],r3numS),(83,[],r3tabS)]):=phi_cons r3sign_ok (by kernel_rfl) (phi_cons r3put_ok (by kernel_rfl) (phi_cons r3num_ok (by kernel_rfl) (phi_cons r3tab_ok (by kernel_rfl) phi_nil)))
set_option maxHeartbeats 4000000 in
set_option maxRecDepth 8000 in
theorem r3signs_ok:FnOk Tryz.prog 37 r3signsS:=by
 refine fn_slim2 Tryz.func37 s_r3signs phR3_ok ?_
 intro xs hp r hs hp'
 unfold r3signsS at hs
 split at hs
 ·rename_i cs cd t k ps a v m rv ys
  split at hs
  ·rename_i o q hb
   injection hs with hs; subst hs
   obtain ⟨h1,h2,h2',⟨h3,rfl,h4,h5⟩,⟨g1,g2,g3⟩,⟨g4,g5,g6⟩⟩:=hp'
   generalize lsT cs=ls at *
   generalize lsT cd=ds at *
   subst g1 g4
   rw [codesV_len] at g3 g6
   obtain ⟨p,rfl⟩:∃ p:Nat,a=p:=⟨a.toNat,by omega⟩
   obtain ⟨mo,rfl⟩:∃ p:Nat,m=p:=⟨m.toNat,by omega⟩
   generalize unB ys=out at *
   subst h3
   rw [Bs_len]
   have hps:=h1.1
   generalize unB ps=b at *
   subst hps
   have hl:=inp_len h1
   rw [Int.toNat_natCast,Int.toNat_natCast] at hb
   refine ⟨len_le (by kernel_rfl),?_⟩
   have hN:∀ l:List Nat,l.length≤1000→∀ i∈sgs l,i<1001:=fun l hl i hi=>by have:=sgs_lt l i hi; omega
   have u1:unN3 [.int .i64 0,.int .i64 0,.int .i64 1,.int .i64 2,.int .i64 3,.int .i64 4,.int .i64 5]=[0,0,1,2,3,4,5]:=rfl
   have u2:unN3 [.int .i64 0,.int .i64 0,.int .i64 1,.int .i64 2,.int .i64 3,.int .i64 4,.int .i64 5,.int .i64 6,.int .i64 7,.int .i64 8,.int .i64 9,.int .i64 10,.int .i64 11,.int .i64 12,.int .i64 13]=[0,0,1,2,3,4,5,6,7,8,9,10,11,12,13]:=rfl
   have t1:tabQ 3 (allQ 4 [0,0,1,2,3,4,5])=lenTab:=rfl
   have t2:tabQ 1 (allQ 2 [0,0,1,2,3,4,5,6,7,8,9,10,11,12,13])=distTab:=rfl
   simp only [c_r3signs,r3tabS,u1,u2,t1,t2,lenTab_len,distTab_len,Int.reduceToNat,go_sem,reduceDiv,reduceMod,↓reduceIte,reduceEqDiff,reduceSub,Nat.reduceLT,reduceAdd,reduceLeDiff,Int.reduceLT,Int.reduceLE,Int.reduceToNat]
   refine ⟨by simp only [lenOk]; omega,⟨⟨rfl,by decide⟩,fun x hx=>flat_iV lenTab x hx⟩,by simp only [lenOk]; omega,⟨⟨rfl,by decide⟩,fun x hx=>flat_iV distTab x hx⟩,?_⟩
   refine loop2P [] [0,1,2,3,8,9] [0,1,3,5] (fun i:SsI=>⟨[(0,.ref 0 0 0),(1,.sl 1 (codesV ls)),(2,.sl 1 (codesV ds)),(3,.bool true),(8,.own 2 28),(9,.own 3 30)],[.cells t [(1,.sl k (Bs b)),(1,.int .i64 (i.p:Int)),(1,.own 1 i.vr),(1,.int .i64 (mo:Int)),(1,.int .i64 0)],.row 5 1 i.vr (Bs i.out),.row 3 1 28 (lenTab.map iV),.row 3 1 30 (distTab.map iV)]⟩) (fun i=>i.p≤8 * b.length∧signsE ls ds (bitsOf b) mo i.f i.p i.out=.ok (o,q)∧out.length≤i.out.length∧i.vr=v+(i.out.length - out.length)) (fun i=>i.f) ⟨(bitsOf b).length+1,p,out,v⟩ (by rfl) ⟨by simp only; omega,hb,Nat.le_refl _,by simp⟩ ⟨rfl,by rfl⟩ (fun i hi R hR=>?_)
   obtain ⟨f,p,o1,vr⟩:=i
   obtain ⟨i0,i1,i2,i3⟩:=hi
   simp only at i0 i1 i2 i3
   cases f with
   | zero=>cases i1
   | succ f =>
    rw [signsE_succ] at i1
    unfold signK at i1
    split at i1
    ·cases i1
    ·rename_i s p1 hs1
     obtain ⟨s1,s2,s3⟩:=signE_pos (by omega) (hN ls g3) hs1
     rw [bitsOf_length] at s2
     split at i1
     ·rename_i hs256
      split at i1
      ·cases i1
      ·rename_i o2 ho2
       have hw:IntKind.u8.wrap (s:Int)=(s:Int):=by rw [IntKind.wrap_u8']; omega
       have c1:decide ((s:Int)<256)=true:=decide_eq_true (by omega)
       have c2:decide ((s:Int)=256)=false:=decide_eq_false (by omega)
       have hln:=put_len ho2
       simp only [b_r3signs_1,r3signS,r3putS,lsT_codes,codesV_len,unB_Bs,Int.toNat_natCast,hs1,c1,c2,hw,go_sem,reduceDiv,reduceMod,↓reduceIte,reduceEqDiff,Nat.reduceBEq,reduceSub,Nat.reduceLT,reduceAdd,reduceLeDiff,reduceCtorEq]
       obtain ⟨rfl,hlt⟩:=hln
       refine ⟨⟨h1,by omega,g2,g3⟩,⟨⟨by rw [unB_Bs],rfl,h4,h5⟩,by omega,by omega,by omega⟩,hR _ ⟨f,p1,o1 ++ [UInt8.ofNat s],vr+1⟩ ⟨by simp only; omega,i1,by simp only [List.length_append,List.length_singleton]; omega,by simp only [List.length_append,List.length_singleton]; omega⟩ (by simp only; omega) rfl⟩
     ·rename_i hs256
      have c1:decide ((s:Int)<256)=false:=decide_eq_false (by omega)
      split at i1
      ·rename_i he
       injection i1 with i1; injection i1 with e1 e2; subst e1 e2
       have c2:decide ((s:Int)=256)=true:=decide_eq_true (by omega)
       subst i3
       simp only [b_r3signs_1,r_r3signs,r3signS,lsT_codes,codesV_len,unB_Bs,Int.toNat_natCast,hs1,c2,go_sem,reduceDiv,reduceMod,↓reduceIte,Nat.reduceBEq,reduceSub,Nat.reduceLT,reduceAdd,reduceLeDiff,reduceCtorEq]
       exact ⟨h1,by omega,g2,g3⟩
      ·rename_i hne
       have c2:decide ((s:Int)=256)=false:=decide_eq_false (by omega)
       split at i1
       ·cases i1
       ·rename_i n p2 hl2'
        have hp2:=lenE_pos hl2' (by rw [bitsOf_length]; omega)
        rw [bitsOf_length] at hp2
        split at i1
        ·cases i1
        ·split at i1
         ·cases i1
         ·rename_i d p3 hd3'
          obtain ⟨d1,d2,d3⟩:=signE_pos (by omega) (hN ds g6) hd3'
          rw [bitsOf_length] at d2
          split at i1
          ·cases i1
          ·rename_i back p4 hd4
           have hp4:=distE_pos hd4 (by rw [bitsOf_length]; omega)
           rw [bitsOf_length] at hp4
           split at i1
           ·cases i1
           ·rename_i hbk
            have c8:decide ((o1.length:Int)<(back:Int))=false:=decide_eq_false (by omega)
            split at i1
            ·cases i1
            ·rename_i o2 ho2
             have hcl:=copyE_len ho2
             rcases lenE_cases hl2' with ⟨l1,l2,rfl⟩ | ⟨l1,l2,rfl⟩ | ⟨x,l1,l2,l3,l4⟩
             ·have c3:decide (285<(s:Int))=false:=decide_eq_false (by omega)
              have c4:decide ((s:Int)<285)=true:=decide_eq_true (by omega)
              have c5:decide (264<(s:Int))=false:=decide_eq_false (by omega)
              have ix:((s:Int) - 257).toNat=s - 257:=by omega
              have m1:(lenTab.map iV).getD (s - 257) (.int .i64 0)=.int .i64 (n:Int):=by rw [map_getD lenTab (by rw [lenTab_len]; omega),lenTab_get (s - 257) (by omega),if_pos l1,l2]
              rcases distE_cases hd4 with ⟨k1,k2,rfl⟩ | ⟨y,k1,k2,k3,k4⟩
              ·have c6:decide (29<(d:Int))=false:=decide_eq_false (by omega)
               have c7:decide (3<(d:Int))=false:=decide_eq_false (by omega)
               have m2:(distTab.map iV).getD d (.int .i64 0)=.int .i64 (back:Int):=by rw [map_getD distTab (by rw [distTab_len]; omega),distTab_get d (by omega),if_pos k1,k2]
               simp only [b_r3signs_1,r3signS,lsT_codes,codesV_len,List.length_map,lenTab_len,distTab_len,unB_Bs,Bs_len,Int.toNat_natCast,hs1,hd3',c1,c2,c3,c6,c8,c4,c5,ix,m1,c7,m2,go_sem,reduceDiv,reduceMod,↓reduceIte,Nat.reduceBEq,reduceSub,Nat.reduceLT,reduceAdd,reduceLeDiff,reduceCtorEq]
               refine ⟨⟨h1,by omega,g2,g3⟩,by (first | omega | (simp only [inI]; omega)),⟨by omega,by omega⟩,by omega,⟨h1,by omega,g5,g6⟩,⟨by omega,by omega⟩,by omega,?_⟩
               refine loop2P [] [0,1,2,3,8,9,11,13,14] [0,1,2,3] (fun i:CpI=>⟨[(0,.ref 0 0 0),(1,.sl 1 (codesV ls)),(2,.sl 1 (codesV ds)),(3,.bool true),(8,.own 2 28),(9,.own 3 30),(11,.int .i64 ((n:Nat):Int)),(13,.int .i64 (back:Int)),(14,.int .i64 (i.i:Int))],[.cells t [(1,.sl k (Bs b)),(1,.int .i64 (p4:Int)),(1,.own 1 (vr+i.i)),(1,.int .i64 (mo:Int)),(1,.int .i64 0)],.row 5 1 (vr+i.i) (Bs i.out),.row 3 1 28 (lenTab.map iV),.row 3 1 30 (distTab.map iV)]⟩) (fun i=>i.i≤n∧copyE mo back (n - i.i) i.out=.ok o2∧i.out.length=o1.length+i.i) (fun i=>n - i.i) ⟨0,o1⟩ (by rfl) ⟨Nat.zero_le _,ho2,rfl⟩ ⟨rfl,by rfl⟩ (fun i hi R2 hR2=>?_)
               obtain ⟨i,o3⟩:=i
               obtain ⟨j1,j2,j3⟩:=hi
               simp only at j1 j2 j3
               by_cases hin:i<n
               ·have c9:decide ((i:Int)<(n:Int))=true:=decide_eq_true (by omega)
                rw [show n - i=(n - (i+1))+1 by omega,copyE_succ] at j2
                split at j2
                ·cases j2
                ·rename_i o4 ho4
                 obtain ⟨rfl,hlt⟩:=put_len ho4
                 have e6:((o3.length:Int) - (back:Int)).toNat=o3.length - back:=by omega
                 have hu:=(o3.getD (o3.length - back) 0).toNat_lt
                 simp only [b_r3signs_0,r3putS,c9,e6,UInt8.ofNat_toNat,unB_Bs,Bs_len,Int.toNat_natCast,go_sem,reduceDiv,reduceMod,↓reduceIte,reduceEqDiff,Nat.reduceBEq,reduceSub,Nat.reduceLT,reduceAdd,reduceLeDiff,reduceCtorEq]
                 exact ⟨by (first | omega | (simp only [inI]; omega)),⟨by omega,by omega⟩,by omega,⟨⟨by rw [unB_Bs],rfl,h4,h5⟩,by omega,by omega,by omega⟩,by (first | omega | (simp only [inI]; omega)),hR2 _ ⟨i+1,_⟩ ⟨by simp only; omega,j2,by simp only [List.length_append,List.length_singleton]; omega⟩ (by simp only; omega) rfl⟩
               ·have c9:decide ((i:Int)<(n:Int))=false:=decide_eq_false (by omega)
                obtain rfl:i=n:=by omega
                rw [Nat.sub_self] at j2
                injection j2 with j2; subst j2
                simp only [b_r3signs_0,c9,go_sem,reduceDiv,reduceMod,↓reduceIte]
                exact hR _ ⟨f,p4,o3,_⟩ ⟨by simp only; omega,i1,by simp only; omega,by simp only; omega⟩ (by simp only; omega) rfl
              ·have c6:decide (29<(d:Int))=false:=decide_eq_false (by omega)
               have c7:decide (3<(d:Int))=true:=decide_eq_true (by omega)
               have m2:(distTab.map iV).getD d (.int .i64 0)=.int .i64 ((1+(2+d % 2) * 2 ^ (d / 2 - 1):Nat):Int):=by rw [map_getD distTab (by rw [distTab_len]; omega),distTab_get d (by omega),if_neg (by omega)]
               have e2:(d:Int).tdiv 2=((d / 2:Nat):Int):=rfl
               have e3:((d / 2:Nat):Int) - 1=((d / 2 - 1:Nat):Int):=by omega
               have e4:((1+(2+d % 2) * 2 ^ (d / 2 - 1):Nat):Int)+(y:Int)=(back:Int):=by rw [k4,Int.natCast_add (_+_) y]
               simp only [b_r3signs_1,r3signS,r3numS,lsT_codes,codesV_len,List.length_map,lenTab_len,distTab_len,unB_Bs,Bs_len,Int.toNat_natCast,hs1,hd3',c1,c2,c3,c6,c8,c4,c5,ix,m1,c7,m2,e2,e3,e4,k3,go_sem,reduceDiv,reduceMod,↓reduceIte,reduceEqDiff,Nat.reduceBEq,reduceSub,Nat.reduceLT,reduceAdd,reduceLeDiff,reduceCtorEq,Int.reduceNe]
               refine ⟨⟨h1,by omega,g2,g3⟩,by (first | omega | (simp only [inI]; omega)),⟨by omega,by omega⟩,by omega,⟨h1,by omega,g5,g6⟩,⟨by omega,by omega⟩,by omega,by (first | omega | (simp only [inI]; omega)),by (first | omega | (simp only [inI]; omega)),⟨h1,by omega,by omega,by omega⟩,by (first | omega | (simp only [inI]; omega)),?_⟩
               refine loop2P [] [0,1,2,3,8,9,11,13,14] [0,1,2,3] (fun i:CpI=>⟨[(0,.ref 0 0 0),(1,.sl 1 (codesV ls)),(2,.sl 1 (codesV ds)),(3,.bool true),(8,.own 2 28),(9,.own 3 30),(11,.int .i64 ((n:Nat):Int)),(13,.int .i64 (back:Int)),(14,.int .i64 (i.i:Int))],[.cells t [(1,.sl k (Bs b)),(1,.int .i64 (p4:Int)),(1,.own 1 (vr+i.i)),(1,.int .i64 (mo:Int)),(1,.int .i64 0)],.row 5 1 (vr+i.i) (Bs i.out),.row 3 1 28 (lenTab.map iV),.row 3 1 30 (distTab.map iV)]⟩) (fun i=>i.i≤n∧copyE mo back (n - i.i) i.out=.ok o2∧i.out.length=o1.length+i.i) (fun i=>n - i.i) ⟨0,o1⟩ (by rfl) ⟨Nat.zero_le _,ho2,rfl⟩ ⟨rfl,by rfl⟩ (fun i hi R2 hR2=>?_)
               obtain ⟨i,o3⟩:=i
               obtain ⟨j1,j2,j3⟩:=hi
               simp only at j1 j2 j3
               by_cases hin:i<n
               ·have c9:decide ((i:Int)<(n:Int))=true:=decide_eq_true (by omega)
                rw [show n - i=(n - (i+1))+1 by omega,copyE_succ] at j2
                split at j2
                ·cases j2
                ·rename_i o4 ho4
                 obtain ⟨rfl,hlt⟩:=put_len ho4
                 have e6:((o3.length:Int) - (back:Int)).toNat=o3.length - back:=by omega
                 have hu:=(o3.getD (o3.length - back) 0).toNat_lt
                 simp only [b_r3signs_0,r3putS,c9,e6,UInt8.ofNat_toNat,unB_Bs,Bs_len,Int.toNat_natCast,go_sem,reduceDiv,reduceMod,↓reduceIte,reduceEqDiff,Nat.reduceBEq,reduceSub,Nat.reduceLT,reduceAdd,reduceLeDiff,reduceCtorEq]
                 exact ⟨by (first | omega | (simp only [inI]; omega)),⟨by omega,by omega⟩,by omega,⟨⟨by rw [unB_Bs],rfl,h4,h5⟩,by omega,by omega,by omega⟩,by (first | omega | (simp only [inI]; omega)),hR2 _ ⟨i+1,_⟩ ⟨by simp only; omega,j2,by simp only [List.length_append,List.length_singleton]; omega⟩ (by simp only; omega) rfl⟩
               ·have c9:decide ((i:Int)<(n:Int))=false:=decide_eq_false (by omega)
                obtain rfl:i=n:=by omega
                rw [Nat.sub_self] at j2
                injection j2 with j2; subst j2
                simp only [b_r3signs_0,c9,go_sem,reduceDiv,reduceMod,↓reduceIte]
                exact hR _ ⟨f,p4,o3,_⟩ ⟨by simp only; omega,i1,by simp only; omega,by simp only; omega⟩ (by simp only; omega) rfl
             ·have c3:decide (285<(s:Int))=false:=decide_eq_false (by omega)
              have c4:decide ((s:Int)<285)=false:=decide_eq_false (by omega)
              subst l2
              rcases distE_cases hd4 with ⟨k1,k2,rfl⟩ | ⟨y,k1,k2,k3,k4⟩
              ·have c6:decide (29<(d:Int))=false:=decide_eq_false (by omega)
               have c7:decide (3<(d:Int))=false:=decide_eq_false (by omega)
               have m2:(distTab.map iV).getD d (.int .i64 0)=.int .i64 (back:Int):=by rw [map_getD distTab (by rw [distTab_len]; omega),distTab_get d (by omega),if_pos k1,k2]
               simp only [b_r3signs_1,r3signS,lsT_codes,codesV_len,List.length_map,distTab_len,unB_Bs,Bs_len,Int.toNat_natCast,hs1,hd3',c1,c2,c3,c6,c8,c4,c7,m2,go_sem,reduceDiv,reduceMod,↓reduceIte,Nat.reduceBEq,reduceSub,Nat.reduceLT,reduceAdd,reduceLeDiff,reduceCtorEq]
               refine ⟨⟨h1,by omega,g2,g3⟩,⟨h1,by omega,g5,g6⟩,⟨by omega,by omega⟩,by omega,?_⟩
               refine loop2P [] [0,1,2,3,8,9,11,13,14] [0,1,2,3] (fun i:CpI=>⟨[(0,.ref 0 0 0),(1,.sl 1 (codesV ls)),(2,.sl 1 (codesV ds)),(3,.bool true),(8,.own 2 28),(9,.own 3 30),(11,.int .i64 ((258:Nat):Int)),(13,.int .i64 (back:Int)),(14,.int .i64 (i.i:Int))],[.cells t [(1,.sl k (Bs b)),(1,.int .i64 (p4:Int)),(1,.own 1 (vr+i.i)),(1,.int .i64 (mo:Int)),(1,.int .i64 0)],.row 5 1 (vr+i.i) (Bs i.out),.row 3 1 28 (lenTab.map iV),.row 3 1 30 (distTab.map iV)]⟩) (fun i=>i.i≤258∧copyE mo back (258 - i.i) i.out=.ok o2∧i.out.length=o1.length+i.i) (fun i=>258 - i.i) ⟨0,o1⟩ (by rfl) ⟨Nat.zero_le _,ho2,rfl⟩ ⟨rfl,by rfl⟩ (fun i hi R2 hR2=>?_)
               obtain ⟨i,o3⟩:=i
               obtain ⟨j1,j2,j3⟩:=hi
               simp only at j1 j2 j3
               by_cases hin:i<258
               ·have c9:decide ((i:Int)<258)=true:=decide_eq_true (by omega)
                rw [show 258 - i=(258 - (i+1))+1 by omega,copyE_succ] at j2
                split at j2
                ·cases j2
                ·rename_i o4 ho4
                 obtain ⟨rfl,hlt⟩:=put_len ho4
                 have e6:((o3.length:Int) - (back:Int)).toNat=o3.length - back:=by omega
                 have hu:=(o3.getD (o3.length - back) 0).toNat_lt
                 simp only [b_r3signs_0,r3putS,c9,e6,UInt8.ofNat_toNat,unB_Bs,Bs_len,Int.toNat_natCast,go_sem,reduceDiv,reduceMod,↓reduceIte,reduceEqDiff,Nat.reduceBEq,reduceSub,Nat.reduceLT,reduceAdd,reduceLeDiff,reduceCtorEq]
                 exact ⟨by (first | omega | (simp only [inI]; omega)),⟨by omega,by omega⟩,by omega,⟨⟨by rw [unB_Bs],rfl,h4,h5⟩,by omega,by omega,by omega⟩,by (first | omega | (simp only [inI]; omega)),hR2 _ ⟨i+1,_⟩ ⟨by simp only; omega,j2,by simp only [List.length_append,List.length_singleton]; omega⟩ (by simp only; omega) rfl⟩
               ·have c9:decide ((i:Int)<258)=false:=decide_eq_false (by omega)
                obtain rfl:i=258:=by omega
                rw [Nat.sub_self] at j2
                injection j2 with j2; subst j2
                simp only [b_r3signs_0,go_sem,reduceDiv,reduceMod,↓reduceIte,Int.reduceLT]
                exact hR _ ⟨f,p4,o3,_⟩ ⟨by simp only; omega,i1,by simp only; omega,by simp only; omega⟩ (by simp only; omega) rfl
              ·have c6:decide (29<(d:Int))=false:=decide_eq_false (by omega)
               have c7:decide (3<(d:Int))=true:=decide_eq_true (by omega)
               have m2:(distTab.map iV).getD d (.int .i64 0)=.int .i64 ((1+(2+d % 2) * 2 ^ (d / 2 - 1):Nat):Int):=by rw [map_getD distTab (by rw [distTab_len]; omega),distTab_get d (by omega),if_neg (by omega)]
               have e2:(d:Int).tdiv 2=((d / 2:Nat):Int):=rfl
               have e3:((d / 2:Nat):Int) - 1=((d / 2 - 1:Nat):Int):=by omega
               have e4:((1+(2+d % 2) * 2 ^ (d / 2 - 1):Nat):Int)+(y:Int)=(back:Int):=by rw [k4,Int.natCast_add (_+_) y]
               simp only [b_r3signs_1,r3signS,r3numS,lsT_codes,codesV_len,List.length_map,distTab_len,unB_Bs,Bs_len,Int.toNat_natCast,hs1,hd3',c1,c2,c3,c6,c8,c4,c7,m2,e2,e3,e4,k3,go_sem,reduceDiv,reduceMod,↓reduceIte,reduceEqDiff,Nat.reduceBEq,reduceSub,Nat.reduceLT,reduceAdd,reduceLeDiff,reduceCtorEq,Int.reduceNe]
               refine ⟨⟨h1,by omega,g2,g3⟩,⟨h1,by omega,g5,g6⟩,⟨by omega,by omega⟩,by omega,by (first | omega | (simp only [inI]; omega)),by (first | omega | (simp only [inI]; omega)),⟨h1,by omega,by omega,by omega⟩,by (first | omega | (simp only [inI]; omega)),?_⟩
               refine loop2P [] [0,1,2,3,8,9,11,13,14] [0,1,2,3] (fun i:CpI=>⟨[(0,.ref 0 0 0),(1,.sl 1 (codesV ls)),(2,.sl 1 (codesV ds)),(3,.bool true),(8,.own 2 28),(9,.own 3 30),(11,.int .i64 ((258:Nat):Int)),(13,.int .i64 (back:Int)),(14,.int .i64 (i.i:Int))],[.cells t [(1,.sl k (Bs b)),(1,.int .i64 (p4:Int)),(1,.own 1 (vr+i.i)),(1,.int .i64 (mo:Int)),(1,.int .i64 0)],.row 5 1 (vr+i.i) (Bs i.out),.row 3 1 28 (lenTab.map iV),.row 3 1 30 (distTab.map iV)]⟩) (fun i=>i.i≤258∧copyE mo back (258 - i.i) i.out=.ok o2∧i.out.length=o1.length+i.i) (fun i=>258 - i.i) ⟨0,o1⟩ (by rfl) ⟨Nat.zero_le _,ho2,rfl⟩ ⟨rfl,by rfl⟩ (fun i hi R2 hR2=>?_)
               obtain ⟨i,o3⟩:=i
               obtain ⟨j1,j2,j3⟩:=hi
               simp only at j1 j2 j3
               by_cases hin:i<258
               ·have c9:decide ((i:Int)<258)=true:=decide_eq_true (by omega)
                rw [show 258 - i=(258 - (i+1))+1 by omega,copyE_succ] at j2
                split at j2
                ·cases j2
                ·rename_i o4 ho4
                 obtain ⟨rfl,hlt⟩:=put_len ho4
                 have e6:((o3.length:Int) - (back:Int)).toNat=o3.length - back:=by omega
                 have hu:=(o3.getD (o3.length - back) 0).toNat_lt
                 simp only [b_r3signs_0,r3putS,c9,e6,UInt8.ofNat_toNat,unB_Bs,Bs_len,Int.toNat_natCast,go_sem,reduceDiv,reduceMod,↓reduceIte,reduceEqDiff,Nat.reduceBEq,reduceSub,Nat.reduceLT,reduceAdd,reduceLeDiff,reduceCtorEq]
                 exact ⟨by (first | omega | (simp only [inI]; omega)),⟨by omega,by omega⟩,by omega,⟨⟨by rw [unB_Bs],rfl,h4,h5⟩,by omega,by omega,by omega⟩,by (first | omega | (simp only [inI]; omega)),hR2 _ ⟨i+1,_⟩ ⟨by simp only; omega,j2,by simp only [List.length_append,List.length_singleton]; omega⟩ (by simp only; omega) rfl⟩
               ·have c9:decide ((i:Int)<258)=false:=decide_eq_false (by omega)
                obtain rfl:i=258:=by omega
                rw [Nat.sub_self] at j2
                injection j2 with j2; subst j2
                simp only [b_r3signs_0,go_sem,reduceDiv,reduceMod,↓reduceIte,Int.reduceLT]
                exact hR _ ⟨f,p4,o3,_⟩ ⟨by simp only; omega,i1,by simp only; omega,by simp only; omega⟩ (by simp only; omega) rfl
             ·have c3:decide (285<(s:Int))=false:=decide_eq_false (by omega)
              have c4:decide ((s:Int)<285)=true:=decide_eq_true (by omega)
              have c5:decide (264<(s:Int))=true:=decide_eq_true (by omega)
              have ix:((s:Int) - 257).toNat=s - 257:=by omega
              have m1:(lenTab.map iV).getD (s - 257) (.int .i64 0)=.int .i64 ((3+(4+(s - 257) % 4) * 2 ^ ((s - 257) / 4 - 1):Nat):Int):=by rw [map_getD lenTab (by rw [lenTab_len]; omega),lenTab_get (s - 257) (by omega),if_neg (by omega)]
              have e1:((s:Int) - 261).tdiv 4=(((s - 257) / 4 - 1:Nat):Int):=by rw [Int.tdiv_eq_ediv_of_nonneg (by omega)]; omega
              have e5:((3+(4+(s - 257) % 4) * 2 ^ ((s - 257) / 4 - 1):Nat):Int)+(x:Int)=(n:Int):=by rw [l4,Int.natCast_add (_+_) x]
              rcases distE_cases hd4 with ⟨k1,k2,rfl⟩ | ⟨y,k1,k2,k3,k4⟩
              ·have c6:decide (29<(d:Int))=false:=decide_eq_false (by omega)
               have c7:decide (3<(d:Int))=false:=decide_eq_false (by omega)
               have m2:(distTab.map iV).getD d (.int .i64 0)=.int .i64 (back:Int):=by rw [map_getD distTab (by rw [distTab_len]; omega),distTab_get d (by omega),if_pos k1,k2]
               simp only [b_r3signs_1,r3signS,r3numS,lsT_codes,codesV_len,List.length_map,lenTab_len,distTab_len,unB_Bs,Bs_len,Int.toNat_natCast,hs1,hd3',c1,c2,c3,c6,c8,c4,c5,ix,m1,e1,e5,l3,c7,m2,go_sem,reduceDiv,reduceMod,↓reduceIte,reduceEqDiff,Nat.reduceBEq,reduceSub,Nat.reduceLT,reduceAdd,reduceLeDiff,reduceCtorEq,Int.reduceNe]
               refine ⟨⟨h1,by omega,g2,g3⟩,by (first | omega | (simp only [inI]; omega)),⟨by omega,by omega⟩,by omega,by (first | omega | (simp only [inI]; omega)),by (first | omega | (simp only [inI]; omega)),⟨h1,by omega,by omega,by omega⟩,by (first | omega | (simp only [inI]; omega)),⟨h1,by omega,g5,g6⟩,⟨by omega,by omega⟩,by omega,?_⟩
               refine loop2P [] [0,1,2,3,8,9,11,13,14] [0,1,2,3] (fun i:CpI=>⟨[(0,.ref 0 0 0),(1,.sl 1 (codesV ls)),(2,.sl 1 (codesV ds)),(3,.bool true),(8,.own 2 28),(9,.own 3 30),(11,.int .i64 ((n:Nat):Int)),(13,.int .i64 (back:Int)),(14,.int .i64 (i.i:Int))],[.cells t [(1,.sl k (Bs b)),(1,.int .i64 (p4:Int)),(1,.own 1 (vr+i.i)),(1,.int .i64 (mo:Int)),(1,.int .i64 0)],.row 5 1 (vr+i.i) (Bs i.out),.row 3 1 28 (lenTab.map iV),.row 3 1 30 (distTab.map iV)]⟩) (fun i=>i.i≤n∧copyE mo back (n - i.i) i.out=.ok o2∧i.out.length=o1.length+i.i) (fun i=>n - i.i) ⟨0,o1⟩ (by rfl) ⟨Nat.zero_le _,ho2,rfl⟩ ⟨rfl,by rfl⟩ (fun i hi R2 hR2=>?_)
               obtain ⟨i,o3⟩:=i
               obtain ⟨j1,j2,j3⟩:=hi
               simp only at j1 j2 j3
               by_cases hin:i<n
               ·have c9:decide ((i:Int)<(n:Int))=true:=decide_eq_true (by omega)
                rw [show n - i=(n - (i+1))+1 by omega,copyE_succ] at j2
                split at j2
                ·cases j2
                ·rename_i o4 ho4
                 obtain ⟨rfl,hlt⟩:=put_len ho4
                 have e6:((o3.length:Int) - (back:Int)).toNat=o3.length - back:=by omega
                 have hu:=(o3.getD (o3.length - back) 0).toNat_lt
                 simp only [b_r3signs_0,r3putS,c9,e6,UInt8.ofNat_toNat,unB_Bs,Bs_len,Int.toNat_natCast,go_sem,reduceDiv,reduceMod,↓reduceIte,reduceEqDiff,Nat.reduceBEq,reduceSub,Nat.reduceLT,reduceAdd,reduceLeDiff,reduceCtorEq]
                 exact ⟨by (first | omega | (simp only [inI]; omega)),⟨by omega,by omega⟩,by omega,⟨⟨by rw [unB_Bs],rfl,h4,h5⟩,by omega,by omega,by omega⟩,by (first | omega | (simp only [inI]; omega)),hR2 _ ⟨i+1,_⟩ ⟨by simp only; omega,j2,by simp only [List.length_append,List.length_singleton]; omega⟩ (by simp only; omega) rfl⟩
               ·have c9:decide ((i:Int)<(n:Int))=false:=decide_eq_false (by omega)
                obtain rfl:i=n:=by omega
                rw [Nat.sub_self] at j2
                injection j2 with j2; subst j2
                simp only [b_r3signs_0,c9,go_sem,reduceDiv,reduceMod,↓reduceIte]
                exact hR _ ⟨f,p4,o3,_⟩ ⟨by simp only; omega,i1,by simp only; omega,by simp only; omega⟩ (by simp only; omega) rfl
              ·have c6:decide (29<(d:Int))=false:=decide_eq_false (by omega)
               have c7:decide (3<(d:Int))=true:=decide_eq_true (by omega)
               have m2:(distTab.map iV).getD d (.int .i64 0)=.int .i64 ((1+(2+d % 2) * 2 ^ (d / 2 - 1):Nat):Int):=by rw [map_getD distTab (by rw [distTab_len]; omega),distTab_get d (by omega),if_neg (by omega)]
               have e2:(d:Int).tdiv 2=((d / 2:Nat):Int):=rfl
               have e3:((d / 2:Nat):Int) - 1=((d / 2 - 1:Nat):Int):=by omega
               have e4:((1+(2+d % 2) * 2 ^ (d / 2 - 1):Nat):Int)+(y:Int)=(back:Int):=by rw [k4,Int.natCast_add (_+_) y]
               simp only [b_r3signs_1,r3signS,r3numS,lsT_codes,codesV_len,List.length_map,lenTab_len,distTab_len,unB_Bs,Bs_len,Int.toNat_natCast,hs1,hd3',c1,c2,c3,c6,c8,c4,c5,ix,m1,e1,e5,l3,c7,m2,e2,e3,e4,k3,go_sem,reduceDiv,reduceMod,↓reduceIte,reduceEqDiff,Nat.reduceBEq,reduceSub,Nat.reduceLT,reduceAdd,reduceLeDiff,reduceCtorEq,Int.reduceNe]
               refine ⟨⟨h1,by omega,g2,g3⟩,by (first | omega | (simp only [inI]; omega)),⟨by omega,by omega⟩,by omega,by (first | omega | (simp only [inI]; omega)),by (first | omega | (simp only [inI]; omega)),⟨h1,by omega,by omega,by omega⟩,by (first | omega | (simp only [inI]; omega)),⟨h1,by omega,g5,g6⟩,⟨by omega,by omega⟩,by omega,by (first | omega | (simp only [inI]; omega)),by (first | omega | (simp only [inI]; omega)),⟨h1,by omega,by omega,by omega⟩,by (first | omega | (simp only [inI]; omega)),?_⟩
               refine loop2P [] [0,1,2,3,8,9,11,13,14] [0,1,2,3] (fun i:CpI=>⟨[(0,.ref 0 0 0),(1,.sl 1 (codesV ls)),(2,.sl 1 (codesV ds)),(3,.bool true),(8,.own 2 28),(9,.own 3 30),(11,.int .i64 ((n:Nat):Int)),(13,.int .i64 (back:Int)),(14,.int .i64 (i.i:Int))],[.cells t [(1,.sl k (Bs b)),(1,.int .i64 (p4:Int)),(1,.own 1 (vr+i.i)),(1,.int .i64 (mo:Int)),(1,.int .i64 0)],.row 5 1 (vr+i.i) (Bs i.out),.row 3 1 28 (lenTab.map iV),.row 3 1 30 (distTab.map iV)]⟩) (fun i=>i.i≤n∧copyE mo back (n - i.i) i.out=.ok o2∧i.out.length=o1.length+i.i) (fun i=>n - i.i) ⟨0,o1⟩ (by rfl) ⟨Nat.zero_le _,ho2,rfl⟩ ⟨rfl,by rfl⟩ (fun i hi R2 hR2=>?_)
               obtain ⟨i,o3⟩:=i
               obtain ⟨j1,j2,j3⟩:=hi
               simp only at j1 j2 j3
               by_cases hin:i<n
               ·have c9:decide ((i:Int)<(n:Int))=true:=decide_eq_true (by omega)
                rw [show n - i=(n - (i+1))+1 by omega,copyE_succ] at j2
                split at j2
                ·cases j2
                ·rename_i o4 ho4
                 obtain ⟨rfl,hlt⟩:=put_len ho4
                 have e6:((o3.length:Int) - (back:Int)).toNat=o3.length - back:=by omega
                 have hu:=(o3.getD (o3.length - back) 0).toNat_lt
                 simp only [b_r3signs_0,r3putS,c9,e6,UInt8.ofNat_toNat,unB_Bs,Bs_len,Int.toNat_natCast,go_sem,reduceDiv,reduceMod,↓reduceIte,reduceEqDiff,Nat.reduceBEq,reduceSub,Nat.reduceLT,reduceAdd,reduceLeDiff,reduceCtorEq]
                 exact ⟨by (first | omega | (simp only [inI]; omega)),⟨by omega,by omega⟩,by omega,⟨⟨by rw [unB_Bs],rfl,h4,h5⟩,by omega,by omega,by omega⟩,by (first | omega | (simp only [inI]; omega)),hR2 _ ⟨i+1,_⟩ ⟨by simp only; omega,j2,by simp only [List.length_append,List.length_singleton]; omega⟩ (by simp only; omega) rfl⟩
               ·have c9:decide ((i:Int)<(n:Int))=false:=decide_eq_false (by omega)
                obtain rfl:i=n:=by omega
                rw [Nat.sub_self] at j2
                injection j2 with j2; subst j2
                simp only [b_r3signs_0,c9,go_sem,reduceDiv,reduceMod,↓reduceIte]
                exact hR _ ⟨f,p4,o3,_⟩ ⟨by simp only; omega,i1,by simp only; omega,by simp only; omega⟩ (by simp only; omega) rfl
  ·cases hs
 ·cases hs
def manyR (l:List Nat) (n t:Nat) (pr:Prop):Ret:=⟨.own 0 (l ++ List.replicate t n).length,[.row 3 1 (l ++ List.replicate t n).length ((l ++ List.replicate t n).map iV)],pr⟩
def r3many0S:Spec:=fun xs hp=>match xs,hp with
 | [.con (.slice none 0 0),.int .i64 n,.int .i64 t],[]=>some (manyR [] n.toNat t.toNat (0≤n∧0≤t∧t≤1000))
 | [.own 0 v,.int .i64 n,.int .i64 t],[.row 3 1 rv ms]=>some (manyR (unN3 ms) n.toNat t.toNat (0≤n∧0≤t∧t≤1000∧ms=(unN3 ms).map iV∧v=rv∧rv=ms.length∧ms.length≤1000))
 | _,_=>none
set_option maxRecDepth 8000 in
theorem r3many_ok:FnOk Tryz.prog 82 r3many0S:=by
 refine fn_slim2 Tryz.func82 s_r3many (Φ:=phiL []) phi_nil ?_
 intro xs hp r hs hp'
 unfold r3many0S at hs
 split at hs
 ·rename_i n t
  injection hs with hs; subst hs
  obtain ⟨h1,h2,h3⟩:=hp'
  obtain ⟨n,rfl⟩:=Int.eq_ofNat_of_zero_le h1
  obtain ⟨t,rfl⟩:=Int.eq_ofNat_of_zero_le h2
  refine ⟨len_le (by kernel_rfl),?_⟩
  unfold manyR
  simp only [c_r3many,Int.toNat_natCast,List.nil_append,go_sem,reduceDiv,reduceMod,reduceAdd]
  refine loop2P [(0,3,1)] [0,1,2,7] [0] (fun j:Nat=>⟨[(0,.own 0 (List.replicate j n).length),(1,.int .i64 (n:Int)),(2,.int .i64 (t:Int)),(7,.int .i64 (j:Int))],[.row 3 1 (List.replicate j n).length ((List.replicate j n).map iV)]⟩) (fun j=>j≤t) (fun j=>t - j) 0 (by rfl) (Nat.zero_le _) ⟨rfl,by rfl⟩ (fun j hj R hR=>?_)
  by_cases hjt:j<t
  ·have c1:decide ((j:Int)<(t:Int))=true:=decide_eq_true (by omega)
   have e1:(List.replicate j n).map iV ++ [AV.int .i64 (n:Int)]=(List.replicate (j+1) n).map iV:=by rw [List.replicate_succ',List.map_append]; rfl
   have e2:(List.replicate j n).length+1=(List.replicate (j+1) n).length:=by simp
   have e3:(List.replicate (j+1) n).length=j+1:=List.length_replicate
   simp only [b_r3many_0,c1,e1,List.length_map,go_sem,reduceDiv,reduceMod,↓reduceIte,reduceAdd]
   exact ⟨⟨by simp only [lenOk]; omega,by simp only [bytesOk]; omega⟩,by (first | omega | (simp only [inI]; omega)),hR _ (j+1) (by omega) (by omega) (by simp only [e3]; rfl)⟩
  ·have c1:decide ((j:Int)<(t:Int))=false:=decide_eq_false (by omega)
   obtain rfl:j=t:=by omega
   simp only [b_r3many_0,t_r3many_0,r_r3many,c1,go_sem,reduceDiv,reduceMod,↓reduceIte]
 ·rename_i v n t rv ms
  injection hs with hs; subst hs
  obtain ⟨h1,h2,h3,h4,rfl,h5,h6⟩:=hp'
  obtain ⟨n,rfl⟩:=Int.eq_ofNat_of_zero_le h1
  obtain ⟨t,rfl⟩:=Int.eq_ofNat_of_zero_le h2
  generalize unN3 ms=l at *
  subst h4 h5
  rw [List.length_map] at h6 ⊢
  refine ⟨len_le (by kernel_rfl),?_⟩
  unfold manyR
  simp only [c_r3many,Int.toNat_natCast,go_sem,reduceDiv,reduceMod,reduceAdd]
  refine loop2P [] [0,1,2,7] [0] (fun j:Nat=>⟨[(0,.own 0 (l ++ List.replicate j n).length),(1,.int .i64 (n:Int)),(2,.int .i64 (t:Int)),(7,.int .i64 (j:Int))],[.row 3 1 (l ++ List.replicate j n).length ((l ++ List.replicate j n).map iV)]⟩) (fun j=>j≤t) (fun j=>t - j) 0 (by rw [List.replicate_zero,List.append_nil]; rfl) (Nat.zero_le _) ⟨rfl,by rfl⟩ (fun j hj R hR=>?_)
  by_cases hjt:j<t
  ·have c1:decide ((j:Int)<(t:Int))=true:=decide_eq_true (by omega)
   have e1:(l ++ List.replicate j n).map iV ++ [AV.int .i64 (n:Int)]=(l ++ List.replicate (j+1) n).map iV:=by rw [List.replicate_succ',← List.append_assoc]; simp only [List.map_append]; rfl
   have e2:(l ++ List.replicate j n).length+1=(l ++ List.replicate (j+1) n).length:=by simp; omega
   have e3:(l ++ List.replicate (j+1) n).length=l.length+(j+1):=by simp
   simp only [b_r3many_0,c1,e1,e2,List.length_map,go_sem,reduceDiv,reduceMod,↓reduceIte,reduceAdd]
   exact ⟨⟨by simp only [lenOk,e3]; omega,by simp only [bytesOk,e3]; omega⟩,by (first | omega | (simp only [inI]; omega)),hR _ (j+1) (by omega) (by omega) rfl⟩
  ·have c1:decide ((j:Int)<(t:Int))=false:=decide_eq_false (by omega)
   obtain rfl:j=t:=by omega
   simp only [b_r3many_0,t_r3many_0,r_r3many,c1,go_sem,reduceDiv,reduceMod,↓reduceIte]
 ·cases hs
def r3fixS:Spec:=fun xs hp=>match xs,hp with
 | [],[]=>some ⟨.tup [.own 0 288,.own 1 32],[.row 3 1 288 (fixL.map iV),.row 3 1 32 (fixD.map iV)],True⟩
 | _,_=>none
set_option maxRecDepth 8000 in
theorem r3fix_ok:FnOk Tryz.prog 36 r3fixS:=by
 refine fn_slim2 Tryz.func36 s_r3fix (Φ:=phiL [(82,[true],r3many0S)]) (phi_cons r3many_ok (by kernel_rfl) phi_nil) ?_
 intro xs hp r hs hp'
 unfold r3fixS at hs
 split at hs
 ·injection hs with hs; subst hs
  refine ⟨len_le (by kernel_rfl),?_⟩
  simp only [c_r3fix,r_r3fix,r3many0S,manyR,unN3_iV,Int.reduceToNat,List.nil_append,go_sem,reduceDiv,reduceMod,↓reduceIte,Nat.reduceBEq,reduceSub,Nat.reduceLT,reduceAdd,reduceLeDiff,reduceCtorEq,Int.reduceLE,Int.reduceToNat]
  have hf:List.replicate 144 8 ++ List.replicate 112 9 ++ List.replicate 24 7 ++ List.replicate 8 8=fixL:=by unfold fixL; simp only [List.append_assoc]
  rw [hf,fix_len]
  exact ⟨by simp,by simp,rfl,rfl⟩
 ·cases hs
def irawF (td:Td):Spec:=fun xs hp=>match xs,hp with
 | [.sl k ps,.int .i64 m],[]=>match rawE td (unB ps) m.toNat with
  | .ok (o,n)=>some ⟨.tup [.sl 1 (Bs o),.int .i64 (n:Int),.int .i64 0],[],inpOk k ps∧0≤m∧m≤100000000⟩
  | .error e=>some ⟨.tup [.sl 1 [],.int .i64 0,.int .i64 (e:Int)],[],inpOk k ps∧0≤m∧m≤100000000∧e≠9⟩
 | _,_=>none
theorem irawF_ok {td:Td} (hTd:TdOk td):FnOk Tryz.prog 90 (irawF td):=(iraw_ok hTd).freezeD fun xs hp r' hs hp' => by
 unfold irawF at hs
 split at hs
 ·rename_i k ps m
  split at hs
  ·rename_i o n hr
   injection hs with hs; subst hs
   refine ⟨rfl,⟨.tup [.own 0 o.length,.int .i64 (n:Int),.int .i64 0],[.row 5 1 o.length (Bs o)],inpOk k ps∧0≤m∧m≤100000000⟩,by unfold irawS; simp only [hr],hp',rfl,?_,rfl,rfl⟩
   simp [fzV,fzD]
  ·rename_i e hr
   injection hs with hs; subst hs
   refine ⟨rfl,⟨.tup [.con (.slice none 0 0),.int .i64 0,.int .i64 (e:Int)],[],inpOk k ps∧0≤m∧m≤100000000∧e≠9⟩,by unfold irawS; simp only [hr],hp',rfl,?_,rfl,rfl⟩
   simp [fzV,fzD]
 ·cases hs
theorem block_pos {td:Td} (hTd:TdOk td) {B:List Bool} {most ty p q:Nat} {out o:List UInt8} (hp:p≤B.length) (h:blockE td B most ty p out=.ok (o,q)):p≤q∧q≤B.length∧out.length≤o.length∧o.length≤max most out.length:=by
 unfold blockE at h
 split at h
 ·exact stored_pos h
 ·split at h
  ·obtain ⟨z1,z2,z3⟩:=signs_pos (N:=320) (by omega) fix_sgs.1 fix_sgs.2.1 h
   exact ⟨by omega,z2,z3⟩
  ·split at h
   ·split at h
    ·cases h
    ·rename_i c p1 ht
     obtain ⟨ls,ds⟩:=c
     obtain ⟨y1,y2,_,_⟩:=hTd.pos hp ht
     obtain ⟨z1,z2,z3⟩:=signs_pos (N:=ls.length+ds.length+1) (by omega) (fun i hi=>by have:=sgs_lt ls i hi; omega) (fun i hi=>by have:=sgs_lt ds i hi; omega) h
     exact ⟨by omega,z2,z3⟩
   ·cases h
theorem rawGo_pos {td:Td} (hTd:TdOk td) {B:List Bool} {most:Nat}:∀ {k p:Nat} {out o:List UInt8} {q:Nat},p≤B.length→rawGo td B most k p out=.ok (o,q)→q≤B.length∧o.length≤max most out.length
 | 0,p,out,o,q,_,h=>by cases h
 | k+1,p,out,o,q,hp,h=>by
  rw [rawGo] at h
  unfold rawK at h
  split at h
  ·cases h
  ·rename_i last p1 h1
   obtain ⟨a1,a2⟩:=bitE_pos h1
   split at h
   ·cases h
   ·rename_i ty p2 h2
    obtain ⟨b1,_,b3⟩:=numE_ok h2
    split at h
    ·cases h
    ·rename_i o1 p3 h3
     obtain ⟨c1,c2,c3,c4⟩:=block_pos hTd (by omega) h3
     split at h
     ·injection h with h; injection h with e1 e2
      subst e1 e2
      exact ⟨c2,c4⟩
     ·obtain ⟨d1,d2⟩:=rawGo_pos hTd c2 h
      exact ⟨d1,by omega⟩
theorem rawE_pos {td:Td} (hTd:TdOk td) {b o:List UInt8} {most n:Nat} (h:rawE td b most=.ok (o,n)):n≤b.length∧o.length≤most:=by
 unfold rawE at h
 cases hR:rawGo td (bitsOf b) most (8 * b.length+1) 0 [] with
 | error e=>rw [hR] at h; cases h
 | ok w =>
  obtain ⟨o',p⟩:=w
  rw [hR] at h
  injection h with h; injection h with h1 h2
  subst h1 h2
  obtain ⟨d1,d2⟩:=rawGo_pos hTd (Nat.zero_le _) hR
  rw [bitsOf_length] at d1
  simp only [List.length_nil] at d2
  exact ⟨by omega,by omega⟩
end Go.Proofs.YtakolikdebfkeaaGreatDoor
