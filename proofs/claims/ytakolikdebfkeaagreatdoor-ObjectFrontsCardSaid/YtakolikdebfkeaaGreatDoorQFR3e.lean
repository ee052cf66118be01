import Derived.Test.YtakolikdebfkeaaGreatDoorQFInf2
open Nat (reduceDiv reduceMod reduceSub reduceAdd reduceLeDiff reduceEqDiff)
set_option linter.all false
namespace Go.Proofs.YtakolikdebfkeaaGreatDoor
open Go.RowKit
def r3nextS:Spec:=fun xs hp=>match xs,hp with
 | [.str s],[]=>some ⟨.str (nextL s),[],s.contains 48=true∧s.length≤1000⟩
 | _,_=>none
theorem take_snoc {l:List UInt8} {k:Nat} (h:k<l.length):l.take (k+1)=l.take k ++ [l.getD k 0]:=by
 rw [List.take_succ,List.getElem?_eq_getElem h]
 simp [List.getD_eq_getElem?_getD,h]
def nextRow (s:List UInt8) (k:Nat):List UInt8:=s.take k ++ List.replicate (s.length - k) 48
theorem nextRow_len (s:List UInt8) {k:Nat} (h:k≤s.length):(nextRow s k).length=s.length:=by
 unfold nextRow; rw [List.length_append,List.length_take,List.length_replicate]; omega
theorem mid_set (A B:List UInt8) (x y:UInt8) {k:Nat} (h:A.length=k):(A ++ x :: B).set k y=A ++ y :: B:=by subst h; simp
theorem mid_get (A B:List UInt8) (x d:UInt8) {k:Nat} (h:A.length=k):(A ++ x :: B).getD k d=x:=by subst h; simp
theorem nextRow_mid (s:List UInt8) {k:Nat} (h:k+1≤s.length):nextRow s (k+1)=s.take k ++ s.getD k 0 :: List.replicate (s.length - (k+1)) 48:=by
 unfold nextRow
 rw [take_snoc (by omega),List.append_assoc]; rfl
theorem take_k (s:List UInt8) {k:Nat} (h:k+1≤s.length):(s.take k).length=k:=by rw [List.length_take]; omega
theorem nextRow_get (s:List UInt8) {k:Nat} (h:k+1≤s.length):(nextRow s (k+1)).getD k 0=s.getD k 0:=by
 rw [nextRow_mid s h,mid_get _ _ _ _ (take_k s h)]
theorem nextRow_set (s:List UInt8) {k:Nat} (h:k+1≤s.length):(nextRow s (k+1)).set k 48=nextRow s k:=by
 rw [nextRow_mid s h,mid_set _ _ _ _ (take_k s h)]
 unfold nextRow
 rw [show s.length - k=(s.length - (k+1))+1 by omega,List.replicate_succ]
theorem next_hit (s:List UInt8) {k:Nat} (h:k+1≤s.length) (hc:s.getD k 0=48):(nextRow s (k+1)).set k 49=(nextR (s.take (k+1)).reverse).reverse ++ List.replicate (s.length - (k+1)) 48:=by
 rw [nextRow_mid s h,mid_set _ _ _ _ (take_k s h),take_snoc (by omega),hc,List.reverse_append]
 show _=(nextR (48 :: (s.take k).reverse)).reverse ++ _
 rw [nextR,if_pos rfl,List.reverse_cons,List.reverse_reverse,List.append_assoc]; rfl
theorem next_miss (s:List UInt8) {k:Nat} (h:k+1≤s.length) (hc:s.getD k 0≠48):(nextR (s.take (k+1)).reverse).reverse ++ List.replicate (s.length - (k+1)) 48=(nextR (s.take k).reverse).reverse ++ List.replicate (s.length - k) 48:=by
 rw [take_snoc (by omega),List.reverse_append]
 show (nextR (s.getD k 0 :: (s.take k).reverse)).reverse ++ _=_
 rw [nextR,if_neg hc,List.reverse_cons,List.append_assoc,show s.length - k=(s.length - (k+1))+1 by omega,List.replicate_succ]
 rfl
set_option maxRecDepth 8000 in
theorem r3next_ok:FnOk Tryz.prog 85 r3nextS:=by
 refine fn_slim2 Tryz.func85 s_r3next (Φ:=phiL []) phi_nil ?_
 intro xs hp r hs hp'
 unfold r3nextS at hs
 split at hs
 ·rename_i s
  injection hs with hs; subst hs
  obtain ⟨h1,h2⟩:=hp'
  refine ⟨len_le (by kernel_rfl),?_⟩
  have hN:nextL s=(nextR s.reverse).reverse:=if_pos h1
  have hmem:(48:UInt8)∈s:=by simpa using h1
  simp only [c_r3next,Bs_len,go_sem,reduceDiv,reduceMod,↓reduceIte]
  refine ⟨by simp only [lenOk]; omega,by (first | omega | (simp only [inI]; omega)),?_⟩
  refine loop2P [] [0,3,4] [0] (fun k:Nat=>⟨[(0,.str s),(3,.own 0 0),(4,.int .i64 ((k:Int) - 1))],[.row 5 1 0 (Bs (nextRow s k))]⟩) (fun k=>k≤s.length∧(48:UInt8)∈s.take k∧(nextR s.reverse).reverse=(nextR (s.take k).reverse).reverse ++ List.replicate (s.length - k) 48) (fun k=>k) s.length (by
   have:nextRow s s.length=s:=by unfold nextRow; rw [Nat.sub_self,List.take_length]; exact List.append_nil s
   rw [this]; rfl) ⟨Nat.le_refl _,by rw [List.take_length]; exact hmem,by rw [List.take_length,Nat.sub_self]; exact (List.append_nil _).symm⟩ ⟨rfl,by rfl⟩ (fun k hk R hR=>?_)
  obtain ⟨k1,k2,k3⟩:=hk
  cases k with
  | zero=>simp at k2
  | succ k =>
   have c1:decide ((0:Int)≤((k+1:Nat):Int) - 1)=true:=decide_eq_true (by omega)
   have e1:(((k+1:Nat):Int) - 1).toNat=k:=by omega
   have e2:((k+1:Nat):Int) - 1 - 1=(k:Int) - 1:=by omega
   have hg:=nextRow_get s k1
   have hnl:=nextRow_len s k1
   by_cases hc:s.getD k 0=48
   ·have c2:decide (((s.getD k 0).toNat:Int)=48)=true:=by rw [hc]; rfl
    have hset:(Bs (nextRow s (k+1))).set k (.int .u8 49)=Bs ((nextRow s (k+1)).set k 49):=Bs_set (u:=49)
    have hfin:(nextRow s (k+1)).set k 49=nextL s:=by rw [next_hit s k1 hc,hN,k3]
    simp only [b_r3next_0,r_r3next,c1,c2,e1,hg,hset,hfin,unB_Bs,Bs_len,hnl,go_sem,reduceDiv,reduceMod,↓reduceIte,reduceSub,reduceCtorEq]
    exact ⟨⟨by omega,by omega⟩,by omega,⟨by omega,by omega⟩,by omega⟩
   ·have c2:decide (((s.getD k 0).toNat:Int)=48)=false:=decide_eq_false (fun h=>hc (UInt8.toNat_inj.1 (by exact_mod_cast h)))
    have hset:(Bs (nextRow s (k+1))).set k (.int .u8 48)=Bs ((nextRow s (k+1)).set k 48):=Bs_set (u:=48)
    simp only [b_r3next_0,r_r3next,c1,c2,e1,e2,hg,hset,nextRow_set s k1,Bs_len,hnl,go_sem,reduceDiv,reduceMod,↓reduceIte,reduceSub,reduceCtorEq]
    have hme:(48:UInt8)∈s.take k:=by
     rw [take_snoc (by omega)] at k2
     rcases List.mem_append.1 k2 with h | h
     ·exact h
     ·exact absurd (List.mem_singleton.1 h).symm hc
    exact ⟨⟨by omega,by omega⟩,by omega,⟨by omega,by omega⟩,by omega,by (first | omega | (simp only [inI]; omega)),hR _ k ⟨by omega,hme,k3.trans (next_miss s k1 hc)⟩ (by omega) rfl⟩
 ·cases hs
theorem last_zero {ls:List Nat} (hr:roomL ls) {n i:Nat} (hn:0<n) (hn2:n≤15) (hi:i<ls.length) (h:ls[i]=n) {last:List UInt8} (hl:lastOk ls n i last) (hne:last≠[]):last.contains 48=true∧last.length≤n:=by
 have hlt:=nxt_lt hr hn hn2 hi h
 rcases hl with ⟨h0,_⟩ | ⟨m,u,hm,hmn,rfl,hu,he⟩
 ·exact absurd h0 hne
 ·have hu2:u+1<2 ^ m:=by
   have e:2 ^ n=2 ^ m * 2 ^ (n - m):=by rw [← Nat.pow_add,show m+(n - m)=n by omega]
   rw [← he,e] at hlt
   exact Nat.lt_of_mul_lt_mul_right hlt
  exact ⟨List.contains_iff_mem.2 (bits_zero m u hu2),by rw [bitsL_length]; exact hmn⟩
theorem nextL_len (s:List UInt8):(nextL s).length=s.length:=by
 have h:∀ l:List UInt8,(nextR l).length=l.length:=by
  intro l
  induction l with
  | nil=>rfl
  | cons b r ih=>rw [nextR]; split <;> simp [ih]
 unfold nextL
 split
 ·rw [List.length_reverse,h,List.length_reverse]
 ·rfl
def ocF (ls:List Nat) (n i e:Nat):List UInt8:=if 0<ls.getD e 0∧(ls.getD e 0<n∨(ls.getD e 0=n∧e<i)) then codeL ls e else []
def ocV (ls:List Nat) (n i:Nat):List AV:=(List.range ls.length).map fun e=>.str (ocF ls n i e)
theorem ocV_len (ls:List Nat) (n i:Nat):(ocV ls n i).length=ls.length:=by simp [ocV]
theorem ocV_begin (ls:List Nat):ocV ls 1 0=List.replicate ls.length (.str []):=by
 unfold ocV
 refine List.ext_getElem (by simp) (fun e h1 h2=>?_)
 simp only [List.getElem_map,List.getElem_range,List.getElem_replicate]
 unfold ocF
 rw [if_neg (by omega)]
theorem ocV_turn (ls:List Nat) (n:Nat):ocV ls n ls.length=ocV ls (n+1) 0:=by
 unfold ocV
 apply List.map_congr_left
 intro e he
 have he:=List.mem_range.1 he
 unfold ocF
 have:(0<ls.getD e 0∧(ls.getD e 0<n∨(ls.getD e 0=n∧e<ls.length)))↔(0<ls.getD e 0∧(ls.getD e 0<n+1∨(ls.getD e 0=n+1∧e<0))):=by omega
 simp only [this]
theorem ocV_miss (ls:List Nat) {n i:Nat} (h:ls.getD i 0≠n):ocV ls n (i+1)=ocV ls n i:=by
 unfold ocV
 apply List.map_congr_left
 intro e _
 unfold ocF
 have:(0<ls.getD e 0∧(ls.getD e 0<n∨(ls.getD e 0=n∧e<i+1)))↔(0<ls.getD e 0∧(ls.getD e 0<n∨(ls.getD e 0=n∧e<i))):=by
  have:ls.getD e 0=n→e≠i:=fun h1 h2=>h (by rw [← h2]; exact h1)
  omega
 simp only [this]
theorem ocV_at (ls:List Nat) (n i:Nat) {e:Nat} (h:e<(ocV ls n i).length):(ocV ls n i)[e]=.str (ocF ls n i e):=by simp [ocV]
theorem ocV_getD (ls:List Nat) (n i:Nat) {e:Nat} (h:e<ls.length):(ocV ls n i).getD e (.str [])=.str (ocF ls n i e):=by
 unfold ocV
 simp [List.getD_eq_getElem?_getD,h]
theorem ocV_hit (ls:List Nat) {n i:Nat} (hn:0<n) (hi:i<ls.length) (h:ls.getD i 0=n):(ocV ls n i).set i (.str (codeL ls i))=ocV ls n (i+1):=by
 refine List.ext_getElem (by rw [List.length_set,ocV_len,ocV_len]) (fun e h1 h2=>?_)
 rw [List.getElem_set,ocV_at ls n (i+1) h2]
 rw [List.length_set] at h1
 by_cases hie:i=e
 ·subst hie
  rw [if_pos rfl]
  unfold ocF
  rw [if_pos (by omega)]
 ·rw [if_neg hie,ocV_at ls n i h1]
  unfold ocF
  have:(0<ls.getD e 0∧(ls.getD e 0<n∨(ls.getD e 0=n∧e<i+1)))↔(0<ls.getD e 0∧(ls.getD e 0<n∨(ls.getD e 0=n∧e<i))):=by omega
  simp only [this]
theorem ocV_end (ls:List Nat) (h:∀ l∈ls,l≤15):ocV ls 16 0=codesV ls:=by
 unfold ocV codesV
 apply List.map_congr_left
 intro e he
 have he:=List.mem_range.1 he
 have:=h (ls.getD e 0) (by rw [List.getD_eq_getElem?_getD,List.getElem?_eq_getElem he]; exact List.getElem_mem he)
 unfold ocF
 by_cases h0:ls.getD e 0=0
 ·rw [if_neg (by omega)]
  unfold codeL
  rw [if_pos h0]
 ·rw [if_pos (by omega)]
theorem map_getD (l:List Nat) {i:Nat} (h:i<l.length) (d:AV):(l.map iV).getD i d=.int .i64 ((l.getD i 0:Nat):Int):=by
 simp [List.getD_eq_getElem?_getD,h,iV]
def r3codesS:Spec:=fun xs hp=>match xs,hp with
 | [.sl 1 ms],[]=>some ⟨.own 0 0,[.row 9 1 0 (codesV (unN3 ms))],ms=(unN3 ms).map iV∧roomL (unN3 ms)∧(∀ l∈unN3 ms,l≤15)∧ms.length≤1000⟩
 | _,_=>none
structure CdI where
 n:Nat
 i:Nat
 last:List UInt8
set_option maxRecDepth 8000 in
theorem r3codes_ok:FnOk Tryz.prog 38 r3codesS:=by
 refine fn_slim2 Tryz.func38 s_r3codes (Φ:=phiL [(85,[],r3nextS)]) (phi_cons r3next_ok (by kernel_rfl) phi_nil) ?_
 intro xs hp r hs hp'
 unfold r3codesS at hs
 split at hs
 ·rename_i ms
  injection hs with hs; subst hs
  obtain ⟨h1,h2,h3,h4⟩:=hp'
  generalize unN3 ms=ls at *
  subst h1
  rw [List.length_map] at h4
  refine ⟨len_le (by kernel_rfl),?_⟩
  simp only [c_r3codes,List.length_map,Int.toNat_natCast,go_sem,reduceDiv,reduceMod,↓reduceIte]
  rw [← ocV_begin ls]
  refine ⟨⟨by omega,by omega,by omega,by omega⟩,?_⟩
  refine loop2P [] [0,3,4,5] [0] (fun j:CdI=>⟨[(0,.sl 1 (ls.map iV)),(3,.own 0 0),(4,.str j.last),(5,.int .i64 (j.n:Int))],[.row 9 1 0 (ocV ls j.n 0)]⟩) (fun j=>0<j.n∧j.n≤16∧(j.n≤15→lastOk ls j.n 0 j.last)) (fun j=>16 - j.n) ⟨1,0,[]⟩ (by rfl) ⟨by decide,by decide,fun _=>last_begin ls⟩ ⟨rfl,by rfl⟩ (fun j hj R hR=>?_)
  obtain ⟨n,_,last⟩:=j
  obtain ⟨n1,n2,n3⟩:=hj
  simp only at n1 n2 n3
  by_cases hn:n<16
  ·have c1:decide ((n:Int)<16)=true:=decide_eq_true (by omega)
   simp only [b_r3codes_2,c1,go_sem,reduceDiv,reduceMod,↓reduceIte]
   refine loop2P [] [0,3,4,5,6] [0] (fun j:CdI=>⟨[(0,.sl 1 (ls.map iV)),(3,.own 0 0),(4,.str j.last),(5,.int .i64 (n:Int)),(6,.int .i64 (j.i:Int))],[.row 9 1 0 (ocV ls n j.i)]⟩) (fun j=>j.i≤ls.length∧lastOk ls n j.i j.last) (fun j=>ls.length - j.i) ⟨n,0,last⟩ (by rfl) ⟨Nat.zero_le _,n3 (by omega)⟩ ⟨rfl,by rfl⟩ (fun j hj R2 hR2=>?_)
   obtain ⟨_,i,last⟩:=j
   obtain ⟨i1,i2⟩:=hj
   simp only at i1 i2
   by_cases hil:i<ls.length
   ·have c2:decide ((i:Int)<(ls.length:Int))=true:=decide_eq_true (by omega)
    have hg:=map_getD ls hil (.int .i64 0)
    have hge:ls[i]=ls.getD i 0:=by simp [List.getD_eq_getElem?_getD,hil]
    by_cases hin:ls.getD i 0=n
    ·have c3:decide (((ls.getD i 0:Nat):Int)=(n:Int))=true:=decide_eq_true (by omega)
     have hlz:=last_zero h2 n1 (by omega) hil (hge.trans hin) i2
     obtain ⟨hh1,hh2⟩:=last_hit h2 n1 (by omega) hil (hge.trans hin) i2
     have hcode:stepL n last=codeL ls i:=by rw [hh1]; unfold codeL; rw [if_neg (by omega),hin]
     by_cases hle:last=[]
     ·have c4:decide (last=[])=true:=decide_eq_true hle
      simp only [b_r3codes_1,c2,c3,c4,hg,List.length_map,Int.toNat_natCast,go_sem,reduceDiv,reduceMod,↓reduceIte]
      refine ⟨⟨by omega,by omega⟩,?_⟩
      have hpd:padL n last=stepL n last:=by unfold stepL; rw [if_pos hle]
      have hnl:last.length≤n:=by rw [hle]; exact Nat.zero_le _
      refine loop2P [] [0,3,4,5,6] [0] (fun j:Nat=>⟨[(0,.sl 1 (ls.map iV)),(3,.own 0 0),(4,.str ((last) ++ List.replicate j 48)),(5,.int .i64 (n:Int)),(6,.int .i64 (i:Int))],[.row 9 1 0 (ocV ls n i)]⟩) (fun j=>(last).length+j≤n) (fun j=>n - j) 0 (by rw [List.replicate_zero,List.append_nil]; rfl) (by omega) ⟨rfl,by rfl⟩ (fun j hj R3 hR3=>?_)
      have hjl:((last) ++ List.replicate j (48:UInt8)).length=(last).length+j:=by rw [List.length_append,List.length_replicate]
      by_cases hjn:(last).length+j<n
      ·have c5:decide ((((last).length+j:Nat):Int)<(n:Int))=true:=decide_eq_true (by omega)
       have e5:((last) ++ List.replicate j 48) ++ [48]=(last) ++ List.replicate (j+1) 48:=by rw [List.append_assoc,← List.replicate_succ']
       simp only [b_r3codes_0,hjl,c5,e5,go_sem,reduceDiv,reduceMod,↓reduceIte,reduceAdd]
       exact ⟨by simp only [lenOk]; omega,hR3 _ (j+1) (by omega) (by omega) rfl⟩
      ·have c5:decide ((((last).length+j:Nat):Int)<(n:Int))=false:=decide_eq_false (by omega)
       have hpad:(last) ++ List.replicate j 48=codeL ls i:=by rw [← hcode,← hpd]; unfold padL; rw [show n - (last).length=j by omega]
       rw [hpad] at hjl
       have hgo:=ocV_getD ls n i hil
       have hset:=ocV_hit ls n1 hil hin
       simp only [b_r3codes_0,t_r3codes_0,t_r3codes_1,hpad,hjl,c5,hgo,hset,ocV_len,Int.toNat_natCast,go_sem,reduceDiv,reduceMod,↓reduceIte,reduceSub,reduceCtorEq]
       exact ⟨⟨by omega,by omega⟩,by omega,by (first | omega | (simp only [inI]; omega)),hR2 _ ⟨n,i+1,codeL ls i⟩ ⟨by simp only; omega,by simp only; rw [← hcode]; exact hh2⟩ (by simp only; omega) rfl⟩
     ·have c4:decide (last=[])=false:=decide_eq_false hle
      obtain ⟨z1,z2⟩:=hlz hle
      simp only [b_r3codes_1,c2,c3,c4,hg,r3nextS,List.length_map,Int.toNat_natCast,go_sem,reduceDiv,reduceMod,↓reduceIte,reduceAdd]
      refine ⟨⟨by omega,by omega⟩,⟨z1,by omega⟩,?_⟩
      have hpd:padL n (nextL last)=stepL n last:=by unfold stepL; rw [if_neg hle]
      have hnl:(nextL last).length≤n:=by rw [nextL_len]; exact z2
      refine loop2P [] [0,3,4,5,6] [0] (fun j:Nat=>⟨[(0,.sl 1 (ls.map iV)),(3,.own 0 0),(4,.str ((nextL last) ++ List.replicate j 48)),(5,.int .i64 (n:Int)),(6,.int .i64 (i:Int))],[.row 9 1 0 (ocV ls n i)]⟩) (fun j=>(nextL last).length+j≤n) (fun j=>n - j) 0 (by rw [List.replicate_zero,List.append_nil]; rfl) (by omega) ⟨rfl,by rfl⟩ (fun j hj R3 hR3=>?_)
      have hjl:((nextL last) ++ List.replicate j (48:UInt8)).length=(nextL last).length+j:=by rw [List.length_append,List.length_replicate]
      by_cases hjn:(nextL last).length+j<n
      ·have c5:decide ((((nextL last).length+j:Nat):Int)<(n:Int))=true:=decide_eq_true (by omega)
       have e5:((nextL last) ++ List.replicate j 48) ++ [48]=(nextL last) ++ List.replicate (j+1) 48:=by rw [List.append_assoc,← List.replicate_succ']
       simp only [b_r3codes_0,hjl,c5,e5,go_sem,reduceDiv,reduceMod,↓reduceIte,reduceAdd]
       exact ⟨by simp only [lenOk]; omega,hR3 _ (j+1) (by omega) (by omega) rfl⟩
      ·have c5:decide ((((nextL last).length+j:Nat):Int)<(n:Int))=false:=decide_eq_false (by omega)
       have hpad:(nextL last) ++ List.replicate j 48=codeL ls i:=by rw [← hcode,← hpd]; unfold padL; rw [show n - (nextL last).length=j by omega]
       rw [hpad] at hjl
       have hgo:=ocV_getD ls n i hil
       have hset:=ocV_hit ls n1 hil hin
       simp only [b_r3codes_0,t_r3codes_0,t_r3codes_1,hpad,hjl,c5,hgo,hset,ocV_len,Int.toNat_natCast,go_sem,reduceDiv,reduceMod,↓reduceIte,reduceSub,reduceCtorEq]
       exact ⟨⟨by omega,by omega⟩,by omega,by (first | omega | (simp only [inI]; omega)),hR2 _ ⟨n,i+1,codeL ls i⟩ ⟨by simp only; omega,by simp only; rw [← hcode]; exact hh2⟩ (by simp only; omega) rfl⟩
    ·have c3:decide (((ls.getD i 0:Nat):Int)=(n:Int))=false:=decide_eq_false (by omega)
     rw [← ocV_miss ls hin]
     simp only [b_r3codes_1,t_r3codes_1,c2,c3,hg,List.length_map,Int.toNat_natCast,go_sem,reduceDiv,reduceMod,↓reduceIte]
     exact ⟨⟨by omega,by omega⟩,by (first | omega | (simp only [inI]; omega)),hR2 _ ⟨n,i+1,last⟩ ⟨by simp only; omega,last_miss hil (by rw [hge]; exact hin) i2⟩ (by simp only; omega) rfl⟩
   ·have c2:decide ((i:Int)<(ls.length:Int))=false:=decide_eq_false (by omega)
    obtain rfl:i=ls.length:=by omega
    rw [ocV_turn]
    simp only [b_r3codes_1,t_r3codes_2,c2,List.length_map,go_sem,reduceDiv,reduceMod,↓reduceIte]
    exact ⟨by (first | omega | (simp only [inI]; omega)),hR _ ⟨n+1,0,last⟩ ⟨by simp only; omega,by simp only; omega,fun _=>last_turn n1 i2⟩ (by simp only; omega) rfl⟩
  ·have c1:decide ((n:Int)<16)=false:=decide_eq_false (by omega)
   obtain rfl:n=16:=by omega
   simp only [b_r3codes_2,t_r3codes_3,r_r3codes,ocV_end ls h3,go_sem,reduceDiv,reduceMod,↓reduceIte,Int.reduceLT]
 ·cases hs
@[irreducible] def lenD (B:List Bool) (s p:Nat):RdE Nat:=lenE B s p
theorem lenD_eq (B:List Bool) (s p:Nat):lenD B s p=lenE B s p:=by unfold lenD; rfl
def lenIn (s:Int):Prop:=257≤s∧s≤1000
def ilenS:Spec:=fun xs hp=>match xs,hp with
 | [.ref 0 0 0,.int .i64 s],[.cells t [(1,.sl k ps),(1,.int .i64 a),(1,.own 1 v),(1,.int .i64 m)],.row et es rv ys]=>match lenD (bitsOf (unB ps)) s.toNat a.toNat with
  | .ok (x,q)=>some ⟨.int .i64 (x:Int),[.cells t [(1,.sl k ps),(1,.int .i64 (q:Int)),(1,.own 1 v),(1,.int .i64 m)],.row et es rv ys],inpOk k ps∧0≤a∧lenIn s⟩
  | .error _=>none
 | _,_=>none
def ilenX:XSpec:=fun xs hp=>match xs,hp with
 | [.ref 0 0 0,.int .i64 s],[.cells t [(1,.sl k ps),(1,.int .i64 a),(1,.own 1 v),(1,.int .i64 m)],.row et es rv ys]=>match lenD (bitsOf (unB ps)) s.toNat a.toNat with
  | .ok _=>none
  | .error e=>some (wrongV e,inpOk k ps∧0≤a∧a≤8 * ((unB ps).length:Int)∧lenIn s)
 | _,_=>none
theorem shl_le (r e E:Nat) (he:e≤E):r * 2 ^ e≤r * 2 ^ E:=Nat.mul_le_mul_left _ (Nat.pow_le_pow_right (by omega) he)
theorem cast_shl (r e:Nat):((r:Nat):Int) * 2 ^ e=((r * 2 ^ e:Nat):Int):=by push_cast; rfl
theorem ilen_ok:FnOk Tryz.prog 155 ilenS:=by
 refine fn_slim2A Tryz.func155 s_ilen phNum_ok ?_
 intro xs hp r hs hp'
 unfold ilenS at hs
 split at hs
 ·rename_i s t k ps a v m et es rv ys
  split at hs
  ·rename_i x q hb
   injection hs with hs; subst hs
   obtain ⟨h1,h2,h3,h4⟩:=hp'
   obtain ⟨j,rfl⟩:∃ j:Nat,s=((257+j:Nat):Int):=⟨(s - 257).toNat,by omega⟩
   obtain ⟨p,rfl⟩:∃ p:Nat,a=p:=⟨a.toNat,by omega⟩
   rw [Int.toNat_natCast,Int.toNat_natCast] at hb
   rw [lenD_eq] at hb
   unfold lenE at hb
   rw [show 257+j - 257=j by omega] at hb
   have e0:((257+j:Nat):Int) - 257=(j:Int):=by omega
   refine ⟨len_le (by kernel_rfl),?_⟩
   by_cases j8:j<8
   ·have c1:decide ((j:Int)<8)=true:=decide_eq_true (by omega)
    rw [if_pos j8] at hb
    injection hb with hb; injection hb with e1 e2; subst e1 e2
    have e3:(j:Int)+3=((j+3:Nat):Int):=by omega
    simp only [c_ilen,r_ilen,e0,e3,c1,go_sem,reduceDiv,reduceMod,↓reduceIte,Nat.reduceBEq,reduceAdd,reduceCtorEq]
    (repeat' apply And.intro) <;> first | exact h1.1 | exact h1.2.1 | exact h1.2.2 | omega | (first | omega | (simp only [lenOk,bytesOk,inI,IntKind.bits,List.length_append,Bs_len,List.length_cons,List.length_nil,List.length_map,List.length_take,List.length_drop,List.length_replicate]; omega))
   ·have c1:decide ((j:Int)<8)=false:=decide_eq_false (by omega)
    rw [if_neg j8] at hb
    by_cases j28:j=28
    ·have c2:decide ((j:Int)=28)=true:=decide_eq_true (by omega)
     rw [if_pos j28] at hb
     injection hb with hb; injection hb with e1 e2; subst e1 e2
     simp only [c_ilen,r_ilen,e0,c1,c2,go_sem,reduceDiv,reduceMod,↓reduceIte,Nat.reduceBEq,reduceAdd,reduceCtorEq]
     (repeat' apply And.intro) <;> first | exact h1.1 | exact h1.2.1 | exact h1.2.2 | omega | (first | omega | (simp only [lenOk,bytesOk,inI,IntKind.bits,List.length_append,Bs_len,List.length_cons,List.length_nil,List.length_map,List.length_take,List.length_drop,List.length_replicate]; omega))
    ·have c2:decide ((j:Int)=28)=false:=decide_eq_false (by omega)
     rw [if_neg j28] at hb
     by_cases j29:28<j
     ·rw [if_pos j29] at hb; cases hb
     ·have c3:decide ((28:Int)<(j:Int))=false:=decide_eq_false (by omega)
      rw [if_neg j29] at hb
      split at hb
      ·cases hb
      ·rename_i x' q' hn
       injection hb with hb; injection hb with e1 e2; subst e1 e2
       have e4:(j:Int).tdiv 4 - 1=((j / 4 - 1:Nat):Int):=by rw [Int.tdiv_eq_ediv_of_nonneg (by omega)]; omega
       have e4' : (j:Int).tdiv 4=((j / 4:Nat):Int):=by rw [Int.tdiv_eq_ediv_of_nonneg (by omega)]; omega
       have e5:(4:Int)+(j:Int).tmod 4=((4+j % 4:Nat):Int):=by rw [Int.tmod_eq_emod_of_nonneg (by omega)]; omega
       obtain ⟨_,hx,_⟩:=numE_ok hn
       have hx2:=numB_lt (bitsOf (unB ps)) p (j / 4 - 1)
       rw [← hx] at hx2
       have hp5:(2:Nat) ^ (j / 4 - 1)≤2 ^ 5:=Nat.pow_le_pow_right (by omega) (by omega)
       have hsl:=shl_le (4+j % 4) (j / 4 - 1) 5 (by omega)
       obtain ⟨z,hz⟩:∃ z,z=(4+j % 4) * 2 ^ (j / 4 - 1):=⟨_,rfl⟩
       have e7:((4+j % 4:Nat):Int) * 2 ^ (j / 4 - 1)=(z:Int):=by rw [cast_shl,hz]
       rw [← hz] at hsl
       have e8:(3:Int)+(z:Int)+(x' : Int)=((3+(4+j % 4) * 2 ^ (j / 4 - 1)+x' : Nat):Int):=by rw [← hz]; omega
       simp only [c_ilen,r_ilen,inumS,e0,c1,c2,c3,e4,e5,e7,e8,Int.toNat_natCast,hn,go_sem,reduceDiv,reduceMod,↓reduceIte,Nat.reduceBEq,Nat.reduceLT,reduceAdd,reduceCtorEq,Int.reduceNe]
       refine ⟨by (first | omega | (simp only [inI]; omega)),by rw [e4']; (first | omega | (simp only [inI]; omega)),by (first | omega | (simp only [inI]; omega)),by (first | omega | (simp only [inI]; omega)),⟨by omega,by (first | omega | (simp only [inI]; omega))⟩,by (first | omega | (simp only [inI]; omega)),⟨h1,by omega,by omega,by omega⟩,by rw [← hz]; (first | omega | (simp only [inI]; omega))⟩
  ·cases hs
 ·cases hs
theorem ilen_px:FnPX Tryz.prog 155 ilenX:=by
 refine fn_slimX Tryz.func155 s_ilen phNum_ok phNum_px ?_
 intro xs hp x0 p0 hs hp'
 unfold ilenX at hs
 split at hs
 ·rename_i s t k ps a v m et es rv ys
  split at hs
  ·cases hs
  ·rename_i e hb
   injection hs with hs; injection hs with e1 e2; subst e1 e2
   obtain ⟨h1,h2,h2',h3,h4⟩:=hp'
   obtain ⟨j,rfl⟩:∃ j:Nat,s=((257+j:Nat):Int):=⟨(s - 257).toNat,by omega⟩
   obtain ⟨p,rfl⟩:∃ p:Nat,a=p:=⟨a.toNat,by omega⟩
   rw [Int.toNat_natCast,Int.toNat_natCast] at hb
   rw [lenD_eq] at hb
   unfold lenE at hb
   rw [show 257+j - 257=j by omega] at hb
   have e0:((257+j:Nat):Int) - 257=(j:Int):=by omega
   refine ⟨len_le (by kernel_rfl),?_⟩
   by_cases j8:j<8
   ·rw [if_pos j8] at hb; cases hb
   ·have c1:decide ((j:Int)<8)=false:=decide_eq_false (by omega)
    rw [if_neg j8] at hb
    by_cases j28:j=28
    ·rw [if_pos j28] at hb; cases hb
    ·have c2:decide ((j:Int)=28)=false:=decide_eq_false (by omega)
     rw [if_neg j28] at hb
     by_cases j29:28<j
     ·rw [if_pos j29] at hb
      injection hb with hb; subst hb
      have c3:decide ((28:Int)<(j:Int))=true:=decide_eq_true (by omega)
      simp only [c_ilen,ifailX,wrongV,e0,c1,c2,c3,go_sem,reduceDiv,reduceMod,↓reduceIte,reduceEqDiff,reduceAdd,Int.reduceLE,Int.reduceToNat]
      (repeat' apply And.intro) <;> first | exact h1.1 | exact h1.2.1 | exact h1.2.2 | omega | (first | omega | (simp only [lenOk,bytesOk,inI,IntKind.bits,List.length_append,Bs_len,List.length_cons,List.length_nil,List.length_map,List.length_take,List.length_drop,List.length_replicate]; omega))
     ·have c3:decide ((28:Int)<(j:Int))=false:=decide_eq_false (by omega)
      rw [if_neg j29] at hb
      split at hb
      ·rename_i e' hn
       injection hb with hb; subst hb
       have e4:(j:Int).tdiv 4 - 1=((j / 4 - 1:Nat):Int):=by rw [Int.tdiv_eq_ediv_of_nonneg (by omega)]; omega
       have e4' : (j:Int).tdiv 4=((j / 4:Nat):Int):=by rw [Int.tdiv_eq_ediv_of_nonneg (by omega)]; omega
       have e5:(4:Int)+(j:Int).tmod 4=((4+j % 4:Nat):Int):=by rw [Int.tmod_eq_emod_of_nonneg (by omega)]; omega
       have hp5:(2:Nat) ^ (j / 4 - 1)≤2 ^ 5:=Nat.pow_le_pow_right (by omega) (by omega)
       have hsl:=shl_le (4+j % 4) (j / 4 - 1) 5 (by omega)
       obtain ⟨z,hz⟩:∃ z,z=(4+j % 4) * 2 ^ (j / 4 - 1):=⟨_,rfl⟩
       have e7:((4+j % 4:Nat):Int) * 2 ^ (j / 4 - 1)=(z:Int):=by rw [cast_shl,hz]
       rw [← hz] at hsl
       simp only [c_ilen,inumX,wrongV,e0,c1,c2,c3,e4,e5,e7,Int.toNat_natCast,hn,go_sem,reduceDiv,reduceMod,↓reduceIte,Nat.reduceBEq,reduceAdd,reduceCtorEq,Int.reduceNe]
       refine ⟨by (first | omega | (simp only [inI]; omega)),by rw [e4']; (first | omega | (simp only [inI]; omega)),by (first | omega | (simp only [inI]; omega)),by (first | omega | (simp only [inI]; omega)),⟨by omega,by (first | omega | (simp only [inI]; omega))⟩,by (first | omega | (simp only [inI]; omega)),h1,by omega,by omega,by omega,by omega⟩
      ·cases hb
 ·cases hs
def idistS:Spec:=fun xs hp=>match xs,hp with
 | [.ref 0 0 0,.int .i64 s],[.cells t [(1,.sl k ps),(1,.int .i64 a),(1,.own 1 v),(1,.int .i64 m)],.row et es rv ys]=>match distE (bitsOf (unB ps)) s.toNat a.toNat with
  | .ok (x,q)=>some ⟨.int .i64 (x:Int),[.cells t [(1,.sl k ps),(1,.int .i64 (q:Int)),(1,.own 1 v),(1,.int .i64 m)],.row et es rv ys],inpOk k ps∧0≤a∧0≤s∧s≤1000⟩
  | .error _=>none
 | _,_=>none
def idistX:XSpec:=fun xs hp=>match xs,hp with
 | [.ref 0 0 0,.int .i64 s],[.cells t [(1,.sl k ps),(1,.int .i64 a),(1,.own 1 v),(1,.int .i64 m)],.row et es rv ys]=>match distE (bitsOf (unB ps)) s.toNat a.toNat with
  | .ok _=>none
  | .error e=>some (wrongV e,inpOk k ps∧0≤a∧a≤8 * ((unB ps).length:Int)∧0≤s∧s≤1000)
 | _,_=>none
theorem idist_ok:FnOk Tryz.prog 156 idistS:=by
 refine fn_slim2A Tryz.func156 s_idist phNum_ok ?_
 intro xs hp r hs hp'
 unfold idistS at hs
 split at hs
 ·rename_i s t k ps a v m et es rv ys
  split at hs
  ·rename_i x q hb
   injection hs with hs; subst hs
   obtain ⟨h1,h2,h3,h4⟩:=hp'
   obtain ⟨j,rfl⟩:∃ j:Nat,s=j:=⟨s.toNat,by omega⟩
   obtain ⟨p,rfl⟩:∃ p:Nat,a=p:=⟨a.toNat,by omega⟩
   rw [Int.toNat_natCast,Int.toNat_natCast] at hb
   unfold distE at hb
   refine ⟨len_le (by kernel_rfl),?_⟩
   by_cases j8:j<4
   ·have c1:decide ((j:Int)<4)=true:=decide_eq_true (by omega)
    rw [if_pos j8] at hb
    injection hb with hb; injection hb with e1 e2; subst e1 e2
    have e3:(j:Int)+1=((j+1:Nat):Int):=by omega
    simp only [c_idist,r_idist,e3,c1,go_sem,reduceDiv,reduceMod,↓reduceIte,Nat.reduceBEq,reduceAdd,reduceCtorEq]
    (repeat' apply And.intro) <;> first | exact h1.1 | exact h1.2.1 | exact h1.2.2 | omega | (first | omega | (simp only [lenOk,bytesOk,inI,IntKind.bits,List.length_append,Bs_len,List.length_cons,List.length_nil,List.length_map,List.length_take,List.length_drop,List.length_replicate]; omega))
   ·have c1:decide ((j:Int)<4)=false:=decide_eq_false (by omega)
    rw [if_neg j8] at hb
    by_cases j29:29<j
    ·rw [if_pos j29] at hb; cases hb
    ·have c3:decide ((29:Int)<(j:Int))=false:=decide_eq_false (by omega)
     rw [if_neg j29] at hb
     split at hb
     ·cases hb
     ·rename_i x' q' hn
      injection hb with hb; injection hb with e1 e2; subst e1 e2
      have e4:(j:Int).tdiv 2 - 1=((j / 2 - 1:Nat):Int):=by rw [Int.tdiv_eq_ediv_of_nonneg (by omega)]; omega
      have e4' : (j:Int).tdiv 2=((j / 2:Nat):Int):=by rw [Int.tdiv_eq_ediv_of_nonneg (by omega)]; omega
      have e5:(2:Int)+(j:Int).tmod 2=((2+j % 2:Nat):Int):=by rw [Int.tmod_eq_emod_of_nonneg (by omega)]; omega
      obtain ⟨_,hx,_⟩:=numE_ok hn
      have hx2:=numB_lt (bitsOf (unB ps)) p (j / 2 - 1)
      rw [← hx] at hx2
      have hp5:(2:Nat) ^ (j / 2 - 1)≤2 ^ 13:=Nat.pow_le_pow_right (by omega) (by omega)
      have hsl:=shl_le (2+j % 2) (j / 2 - 1) 13 (by omega)
      obtain ⟨z,hz⟩:∃ z,z=(2+j % 2) * 2 ^ (j / 2 - 1):=⟨_,rfl⟩
      have e7:((2+j % 2:Nat):Int) * 2 ^ (j / 2 - 1)=(z:Int):=by rw [cast_shl,hz]
      rw [← hz] at hsl
      have e8:(1:Int)+(z:Int)+(x' : Int)=((1+(2+j % 2) * 2 ^ (j / 2 - 1)+x' : Nat):Int):=by rw [← hz]; omega
      simp only [c_idist,r_idist,inumS,c1,c3,e4,e5,e7,e8,Int.toNat_natCast,hn,go_sem,reduceDiv,reduceMod,↓reduceIte,Nat.reduceBEq,Nat.reduceLT,reduceAdd,reduceCtorEq,Int.reduceNe]
      refine ⟨by rw [e4']; (first | omega | (simp only [inI]; omega)),by (first | omega | (simp only [inI]; omega)),by (first | omega | (simp only [inI]; omega)),⟨by omega,by (first | omega | (simp only [inI]; omega))⟩,by (first | omega | (simp only [inI]; omega)),⟨h1,by omega,by omega,by omega⟩,by rw [← hz]; (first | omega | (simp only [inI]; omega))⟩
  ·cases hs
 ·cases hs
theorem idist_px:FnPX Tryz.prog 156 idistX:=by
 refine fn_slimX Tryz.func156 s_idist phNum_ok phNum_px ?_
 intro xs hp x0 p0 hs hp'
 unfold idistX at hs
 split at hs
 ·rename_i s t k ps a v m et es rv ys
  split at hs
  ·cases hs
  ·rename_i e hb
   injection hs with hs; injection hs with e1 e2; subst e1 e2
   obtain ⟨h1,h2,h2',h3,h4⟩:=hp'
   obtain ⟨j,rfl⟩:∃ j:Nat,s=j:=⟨s.toNat,by omega⟩
   obtain ⟨p,rfl⟩:∃ p:Nat,a=p:=⟨a.toNat,by omega⟩
   rw [Int.toNat_natCast,Int.toNat_natCast] at hb
   unfold distE at hb
   refine ⟨len_le (by kernel_rfl),?_⟩
   by_cases j8:j<4
   ·rw [if_pos j8] at hb; cases hb
   ·have c1:decide ((j:Int)<4)=false:=decide_eq_false (by omega)
    rw [if_neg j8] at hb
    by_cases j29:29<j
    ·rw [if_pos j29] at hb
     injection hb with hb; subst hb
     have c3:decide ((29:Int)<(j:Int))=true:=decide_eq_true (by omega)
     simp only [c_idist,ifailX,wrongV,c1,c3,go_sem,reduceDiv,reduceMod,↓reduceIte,reduceEqDiff,reduceAdd,Int.reduceLE,Int.reduceToNat]
    ·have c3:decide ((29:Int)<(j:Int))=false:=decide_eq_false (by omega)
     rw [if_neg j29] at hb
     split at hb
     ·rename_i e' hn
      injection hb with hb; subst hb
      have e4:(j:Int).tdiv 2 - 1=((j / 2 - 1:Nat):Int):=by rw [Int.tdiv_eq_ediv_of_nonneg (by omega)]; omega
      have e4' : (j:Int).tdiv 2=((j / 2:Nat):Int):=by rw [Int.tdiv_eq_ediv_of_nonneg (by omega)]; omega
      have e5:(2:Int)+(j:Int).tmod 2=((2+j % 2:Nat):Int):=by rw [Int.tmod_eq_emod_of_nonneg (by omega)]; omega
      have hp5:(2:Nat) ^ (j / 2 - 1)≤2 ^ 13:=Nat.pow_le_pow_right (by omega) (by omega)
      have hsl:=shl_le (2+j % 2) (j / 2 - 1) 13 (by omega)
      obtain ⟨z,hz⟩:∃ z,z=(2+j % 2) * 2 ^ (j / 2 - 1):=⟨_,rfl⟩
      have e7:((2+j % 2:Nat):Int) * 2 ^ (j / 2 - 1)=(z:Int):=by rw [cast_shl,hz]
      rw [← hz] at hsl
      simp only [c_idist,inumX,wrongV,c1,c3,e4,e5,e7,Int.toNat_natCast,hn,go_sem,reduceDiv,reduceMod,↓reduceIte,Nat.reduceBEq,reduceAdd,reduceCtorEq,Int.reduceNe]
      refine ⟨by rw [e4']; (first | omega | (simp only [inI]; omega)),by (first | omega | (simp only [inI]; omega)),by (first | omega | (simp only [inI]; omega)),⟨by omega,by (first | omega | (simp only [inI]; omega))⟩,by (first | omega | (simp only [inI]; omega)),h1,by omega,by omega,by omega,by omega⟩
     ·cases hb
 ·cases hs
theorem phPut_ok:PhiOk Tryz.prog (phiL [(123,[],inumS),(153,[],iputS)]):=phi_cons inum_ok (by kernel_rfl) (phi_cons iput_ok (by kernel_rfl) phi_nil)
theorem phPut_px:PhXOk Tryz.prog (phXL [(123,[],inumX),(153,[],iputX),(128,[],ifailX)]):=phXL_cons inum_px (by kernel_rfl) (phXL_cons iput_px (by kernel_rfl) (phXL_cons ifail_ok (by kernel_rfl) phXL_nil))
theorem put_len {most:Nat} {out o:List UInt8} {c:UInt8} (h:putE most out c=.ok o):o=out ++ [c]∧out.length<most:=by
 unfold putE at h
 split at h
 ·cases h
 ·injection h with h; exact ⟨h.symm,by omega⟩
theorem bytesE_succ (B:List Bool) (most n p:Nat) (out:List UInt8):bytesE B most (n+1) p out=match numE B p 8 with
  | .error e=>.error e
  | .ok (c,p1)=>match putE most out (UInt8.ofNat c) with
   | .error e=>.error e
   | .ok o=>bytesE B most n p1 o:=rfl
theorem bytesE_len {B:List Bool} {most:Nat}:∀ {n p:Nat} {out o:List UInt8} {q:Nat},bytesE B most n p out=.ok (o,q)→o.length=out.length+n
 | 0,p,out,o,q,h=>by injection h with h; injection h with h _; rw [h]; rfl
 | n+1,p,out,o,q,h=>by
  rw [bytesE_succ] at h
  split at h
  ·cases h
  ·split at h
   ·cases h
   ·rename_i o' ho
    have:=bytesE_len h
    rw [this,(put_len ho).1,List.length_append]; simp; omega
def istorS:Spec:=fun xs hp=>match xs,hp with
 | [.ref 0 0 0],[.cells t [(1,.sl k ps),(1,.int .i64 a),(1,.own 1 v),(1,.int .i64 m)],.row 5 1 rv ys]=>match storedE (bitsOf (unB ps)) m.toNat a.toNat (unB ys) with
  | .ok (o,q)=>some ⟨.tup [],[.cells t [(1,.sl k ps),(1,.int .i64 (q:Int)),(1,.own 1 (v+(o.length - ys.length))),(1,.int .i64 m)],.row 5 1 (v+(o.length - ys.length)) (Bs o)],inpOk k ps∧0≤a∧outOk v rv ys m⟩
  | .error _=>none
 | _,_=>none
def istorX:XSpec:=fun xs hp=>match xs,hp with
 | [.ref 0 0 0],[.cells t [(1,.sl k ps),(1,.int .i64 a),(1,.own 1 v),(1,.int .i64 m)],.row 5 1 rv ys]=>match storedE (bitsOf (unB ps)) m.toNat a.toNat (unB ys) with
  | .ok _=>none
  | .error e=>some (wrongV e,inpOk k ps∧0≤a∧a≤8 * ((unB ps).length:Int)∧outOk v rv ys m∧(unB ys).length≤100000000)
 | _,_=>none
structure StI where
 i:Nat
 p:Nat
 out:List UInt8
theorem istor_ok:FnOk Tryz.prog 124 istorS:=by
 refine fn_slim2 Tryz.func124 s_istor phPut_ok ?_
 intro xs hp r hs hp'
 unfold istorS at hs
 split at hs
 ·rename_i t k ps a v m rv ys
  split at hs
  ·rename_i o q hb
   injection hs with hs; subst hs
   obtain ⟨h1,h2,h3,rfl,h4,h5⟩:=hp'
   obtain ⟨p,rfl⟩:∃ p:Nat,a=p:=⟨a.toNat,by omega⟩
   obtain ⟨mo,rfl⟩:∃ p:Nat,m=p:=⟨m.toNat,by omega⟩
   generalize unB ys=out at *
   subst h3
   rw [Bs_len]
   have hps:=h1.1
   generalize unB ps=b at *
   subst hps
   have hl:=inp_len h1
   rw [Int.toNat_natCast,Int.toNat_natCast] at hb
   refine ⟨len_le (by kernel_rfl),?_⟩
   unfold storedE at hb
   split at hb
   ·cases hb
   ·rename_i n p1 hn1
    split at hb
    ·cases hb
    ·rename_i n2 p2 hn2
     split at hb
     ·rename_i hne
      have e1:(((p:Int)+7).tdiv 8) * 8=(((p+7) / 8 * 8:Nat):Int):=by rw [Int.tdiv_eq_ediv_of_nonneg (by omega)]; omega
      have e1' : ((p:Int)+7).tdiv 8=(((p+7) / 8:Nat):Int):=by rw [Int.tdiv_eq_ediv_of_nonneg (by omega)]; omega
      obtain ⟨a1,a2,a3⟩:=numE_ok hn1
      obtain ⟨b1,b2,b3⟩:=numE_ok hn2
      rw [bitsOf_length] at a1 b1
      have hx1:=numB_lt (bitsOf b) ((p+7) / 8 * 8) 16
      rw [← a2] at hx1
      have c1:(!decide ((n2:Int)=65535 - (n:Int)))=false:=by rw [decide_eq_true (by omega)]; rfl
      have hlen:=bytesE_len hb
      simp only [c_istor,r_istor,inumS,e1,unB_Bs,Int.toNat_natCast,hn1,hn2,c1,go_sem,reduceDiv,reduceMod,↓reduceIte,Nat.reduceBEq,reduceSub,Nat.reduceLT,reduceAdd,reduceCtorEq,Int.reduceNe,Int.reduceLT,Int.reduceLE,Int.reduceToNat]
      refine ⟨by (first | omega | (simp only [inI]; omega)),by rw [e1']; (first | omega | (simp only [inI]; omega)),by (first | omega | (simp only [inI]; omega)),⟨h1,by omega⟩,⟨h1,by omega⟩,by (first | omega | (simp only [inI]; omega)),?_⟩
      refine loop2P [] [0,27,28] [0,1] (fun i:StI=>⟨[(0,.ref 0 0 0),(27,.int .i64 (n:Int)),(28,.int .i64 (i.i:Int))],
       [.cells t [(1,.sl k (Bs b)),(1,.int .i64 (i.p:Int)),(1,.own 1 (v+i.i)),(1,.int .i64 (mo:Int))],.row 5 1 (v+i.i) (Bs i.out)]⟩)
       (fun i=>i.i≤n∧bytesE (bitsOf b) mo (n - i.i) i.p i.out=.ok (o,q)∧i.out.length=out.length+i.i) (fun i=>n - i.i) ⟨0,p2,out⟩ (by rfl) ⟨Nat.zero_le _,hb,rfl⟩ ⟨rfl,by rfl⟩ (fun i hi R hR=>?_)
      obtain ⟨i,p',out'⟩:=i
      obtain ⟨i1,i2,i3⟩:=hi
      simp only at i1 i2 i3
      by_cases hin:i<n
      ·have c2:decide ((i:Int)<(n:Int))=true:=decide_eq_true (by omega)
       rw [show n - i=(n - (i+1))+1 by omega,bytesE_succ] at i2
       split at i2
       ·cases i2
       ·rename_i c p3 hn3
        split at i2
        ·cases i2
        ·rename_i o' ho'
         obtain ⟨d1,d2,d3⟩:=numE_ok hn3
         have hx3:=numB_lt (bitsOf b) p' 8
         rw [← d2] at hx3
         have hw:IntKind.u8.wrap (c:Int)=(c:Int):=by rw [IntKind.wrap_u8']; omega
         have hln:=put_len ho'
         simp only [b_istor_0,inumS,iputS,c2,hw,unB_Bs,Int.toNat_natCast,Int.reduceToNat,hn3,ho',go_sem,reduceDiv,reduceMod,↓reduceIte,reduceEqDiff,Nat.reduceBEq,Nat.reduceLT,reduceAdd,reduceCtorEq,Int.reduceLT,Int.reduceLE,Int.reduceToNat]
         refine ⟨⟨h1,by omega⟩,⟨⟨by rw [unB_Bs],rfl,h4,h5⟩,by omega,by omega⟩,by (first | omega | (simp only [inI]; omega)),hR _ ⟨i+1,p3,o'⟩ ⟨by simp only; omega,i2,by simp only; rw [hln.1,List.length_append]; simp; omega⟩ (by simp only; omega) rfl⟩
      ·have c2:decide ((i:Int)<(n:Int))=false:=decide_eq_false (by omega)
       obtain rfl:i=n:=by omega
       rw [Nat.sub_self] at i2
       injection i2 with i2; injection i2 with e1 e2; subst e1 e2
       have ev:v+i=v+(out'.length - out.length):=by omega
       simp only [b_istor_0,c2,← ev,go_sem,reduceDiv,reduceMod,↓reduceIte,Nat.reduceBEq,reduceAdd,reduceCtorEq]
     ·cases hb
  ·cases hs
 ·cases hs
theorem istor_px:FnPX Tryz.prog 124 istorX:=by
 refine fn_slimX Tryz.func124 s_istor phPut_ok phPut_px ?_
 intro xs hp x0 p0 hs hp'
 unfold istorX at hs
 split at hs
 ·rename_i t k ps a v m rv ys
  split at hs
  ·cases hs
  ·rename_i e hb
   injection hs with hs; injection hs with e1 e2; subst e1 e2
   obtain ⟨h1,h2,h2',⟨h3,rfl,h4,h5⟩,h6⟩:=hp'
   obtain ⟨p,rfl⟩:∃ p:Nat,a=p:=⟨a.toNat,by omega⟩
   obtain ⟨mo,rfl⟩:∃ p:Nat,m=p:=⟨m.toNat,by omega⟩
   generalize unB ys=out at *
   subst h3
   have hps:=h1.1
   generalize unB ps=b at *
   subst hps
   have hl:=inp_len h1
   rw [Int.toNat_natCast,Int.toNat_natCast] at hb
   refine ⟨len_le (by kernel_rfl),?_⟩
   have e1:(((p:Int)+7).tdiv 8) * 8=(((p+7) / 8 * 8:Nat):Int):=by rw [Int.tdiv_eq_ediv_of_nonneg (by omega)]; omega
   have e1' : ((p:Int)+7).tdiv 8=(((p+7) / 8:Nat):Int):=by rw [Int.tdiv_eq_ediv_of_nonneg (by omega)]; omega
   unfold storedE at hb
   split at hb
   ·rename_i e' hn1
    injection hb with hb; subst hb
    simp only [c_istor,inumX,wrongV,e1,unB_Bs,Int.toNat_natCast,Int.reduceToNat,hn1,go_sem,reduceDiv,reduceMod,↓reduceIte,Nat.reduceBEq,reduceSub,reduceAdd,reduceCtorEq,Int.reduceNe,Int.reduceLT,Int.reduceLE,Int.reduceToNat]
    refine ⟨by (first | omega | (simp only [inI]; omega)),by rw [e1']; (first | omega | (simp only [inI]; omega)),by (first | omega | (simp only [inI]; omega)),h1,by omega,by omega⟩
   ·rename_i n p1 hn1
    obtain ⟨a1,a2,a3⟩:=numE_ok hn1
    rw [bitsOf_length] at a1
    have hx1:=numB_lt (bitsOf b) ((p+7) / 8 * 8) 16
    rw [← a2] at hx1
    split at hb
    ·rename_i e' hn2
     injection hb with hb; subst hb
     simp only [c_istor,inumS,inumX,wrongV,e1,unB_Bs,Int.toNat_natCast,Int.reduceToNat,hn1,hn2,go_sem,reduceDiv,reduceMod,↓reduceIte,Nat.reduceBEq,reduceSub,Nat.reduceLT,reduceAdd,reduceCtorEq,Int.reduceNe,Int.reduceLT,Int.reduceLE,Int.reduceToNat]
     refine ⟨by (first | omega | (simp only [inI]; omega)),by rw [e1']; (first | omega | (simp only [inI]; omega)),by (first | omega | (simp only [inI]; omega)),⟨h1,by omega⟩,h1,by omega,by omega⟩
    ·rename_i n2 p2 hn2
     obtain ⟨b1,b2,b3⟩:=numE_ok hn2
     rw [bitsOf_length] at b1
     split at hb
     ·rename_i hne
      have c1:(!decide ((n2:Int)=65535 - (n:Int)))=false:=by rw [decide_eq_true (by omega)]; rfl
      simp only [c_istor,inumS,inumX,e1,unB_Bs,Int.toNat_natCast,Int.reduceToNat,hn1,hn2,c1,go_sem,reduceDiv,reduceMod,↓reduceIte,Nat.reduceBEq,reduceSub,Nat.reduceLT,reduceAdd,reduceCtorEq,Int.reduceNe,Int.reduceLT,Int.reduceLE,Int.reduceToNat]
      refine ⟨by (first | omega | (simp only [inI]; omega)),by rw [e1']; (first | omega | (simp only [inI]; omega)),by (first | omega | (simp only [inI]; omega)),⟨h1,by omega⟩,⟨h1,by omega⟩,by (first | omega | (simp only [inI]; omega)),?_⟩
      refine loop3P [] [0,27,28] [0,1] (fun i:StI=>⟨[(0,.ref 0 0 0),(27,.int .i64 (n:Int)),(28,.int .i64 (i.i:Int))],
       [.cells t [(1,.sl k (Bs b)),(1,.int .i64 (i.p:Int)),(1,.own 1 (v+i.i)),(1,.int .i64 (mo:Int))],.row 5 1 (v+i.i) (Bs i.out)]⟩)
       (fun i=>i.i≤n∧i.p≤8 * b.length∧bytesE (bitsOf b) mo (n - i.i) i.p i.out=.error e∧i.out.length=out.length+i.i) (fun i=>n - i.i) ⟨0,p2,out⟩ (by rfl) ⟨Nat.zero_le _,by simp only; omega,hb,rfl⟩ ⟨rfl,by rfl⟩ (fun i hi R hR=>?_)
      obtain ⟨i,p',out'⟩:=i
      obtain ⟨i1,i4,i2,i3⟩:=hi
      simp only at i1 i2 i3 i4
      by_cases hin:i<n
      ·have c2:decide ((i:Int)<(n:Int))=true:=decide_eq_true (by omega)
       rw [show n - i=(n - (i+1))+1 by omega,bytesE_succ] at i2
       split at i2
       ·rename_i e' hn3
        injection i2 with i2; subst i2
        simp only [b_istor_0,inumX,wrongV,c2,unB_Bs,Int.toNat_natCast,Int.reduceToNat,hn3,go_sem,reduceDiv,reduceMod,↓reduceIte,Nat.reduceBEq,reduceAdd,reduceCtorEq,Int.reduceLT,Int.reduceLE,Int.reduceToNat]
        exact ⟨h1,by omega,by omega⟩
       ·rename_i c p3 hn3
        obtain ⟨d1,d2,d3⟩:=numE_ok hn3
        rw [bitsOf_length] at d1
        have hx3:=numB_lt (bitsOf b) p' 8
        rw [← d2] at hx3
        have hw:IntKind.u8.wrap (c:Int)=(c:Int):=by rw [IntKind.wrap_u8']; omega
        split at i2
        ·rename_i e' ho'
         injection i2 with i2; subst i2
         simp only [b_istor_0,inumS,inumX,iputX,wrongV,c2,hw,unB_Bs,Int.toNat_natCast,Int.reduceToNat,hn3,ho',go_sem,reduceDiv,reduceMod,↓reduceIte,reduceEqDiff,Nat.reduceBEq,Nat.reduceLT,reduceAdd,reduceCtorEq,Int.reduceLT,Int.reduceLE,Int.reduceToNat]
         exact ⟨⟨h1,by omega⟩,⟨by rw [unB_Bs],rfl,h4,h5⟩,by omega⟩
        ·rename_i o' ho'
         have hln:=put_len ho'
         simp only [b_istor_0,inumS,inumX,iputS,iputX,c2,hw,unB_Bs,Int.toNat_natCast,Int.reduceToNat,hn3,ho',go_sem,reduceDiv,reduceMod,↓reduceIte,reduceEqDiff,Nat.reduceBEq,Nat.reduceLT,reduceAdd,reduceCtorEq,Int.reduceLT,Int.reduceLE,Int.reduceToNat]
         refine ⟨⟨h1,by omega⟩,⟨⟨by rw [unB_Bs],rfl,h4,h5⟩,by omega,by omega⟩,by (first | omega | (simp only [inI]; omega)),hR _ ⟨i+1,p3,o'⟩ ⟨by simp only; omega,by simp only; omega,i2,by simp only; rw [hln.1,List.length_append]; simp; omega⟩ (by simp only; omega) rfl⟩
      ·obtain rfl:i=n:=by omega
       rw [Nat.sub_self] at i2
       cases i2
     ·rename_i hne
      injection hb with hb; subst hb
      have c1:(!decide ((n2:Int)=65535 - (n:Int)))=true:=by rw [decide_eq_false (by omega)]; rfl
      simp only [c_istor,inumS,inumX,ifailX,wrongV,e1,unB_Bs,Int.toNat_natCast,Int.reduceToNat,hn1,hn2,c1,go_sem,reduceDiv,reduceMod,↓reduceIte,reduceEqDiff,Nat.reduceBEq,reduceSub,Nat.reduceLT,reduceAdd,reduceCtorEq,Int.reduceNe,Int.reduceLT,Int.reduceLE,Int.reduceToNat]
      refine ⟨by (first | omega | (simp only [inI]; omega)),by rw [e1']; (first | omega | (simp only [inI]; omega)),by (first | omega | (simp only [inI]; omega)),⟨h1,by omega⟩,⟨h1,by omega⟩,by (first | omega | (simp only [inI]; omega))⟩
 ·cases hs
end Go.Proofs.YtakolikdebfkeaaGreatDoor
