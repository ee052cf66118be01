import Derived.Test.YtakolikdebfkeaaGreatDoorQInfCode
import Derived.Test.YtakolikdebfkeaaGreatDoorQAMS
import Derived.Lib.ItoaNum
import Derived.Lib.ItoaMem
import Derived.Lib.AtoiAll
import Derived.Laws.BitsAllLaws
import Derived.Test.YtakolikdebfkeaaGreatDoorQAM9
open Nat (reduceDiv reduceMod reduceSub reduceAdd reduceLeDiff reduceEqDiff)
set_option linter.all false
namespace Go.Proofs.YtakolikdebfkeaaGreatDoor
def putE (most:Nat) (out:List UInt8) (c:UInt8):Except Nat (List UInt8):=if most≤out.length then .error 2 else .ok (out ++ [c])
def copyE (most back:Nat):Nat→List UInt8→Except Nat (List UInt8)
 | 0,out=>.ok out
 | n+1,out=>match putE most out (out.getD (out.length - back) 0) with
  | .error e=>.error e
  | .ok o=>copyE most back n o
def signK (ls ds:List Nat) (B:List Bool) (most:Nat) (K:Nat→List UInt8→RdE (List UInt8)) (p:Nat) (out:List UInt8):RdE (List UInt8):=match signE ls B p with
 | .error e=>.error e
 | .ok (s,p1) =>
  if s<256 then match putE most out (UInt8.ofNat s) with
   | .error e=>.error e
   | .ok o=>K p1 o
  else if s=256 then .ok (out,p1)
  else match lenE B s p1 with
   | .error e=>.error e
   | .ok (n,p2) =>
    if totL ds 15=0 then .error 4 else match signE ds B p2 with
    | .error e=>.error e
    | .ok (d,p3)=>match distE B d p3 with
     | .error e=>.error e
     | .ok (back,p4) =>
      if out.length<back then .error 4 else match copyE most back n out with
      | .error e=>.error e
      | .ok o=>K p4 o
def signsE (ls ds:List Nat) (B:List Bool) (most:Nat):Nat→Nat→List UInt8→RdE (List UInt8)
 | 0=>fun _ _=>.error 0
 | k+1=>signK ls ds B most (signsE ls ds B most k)
theorem signsE_succ (ls ds:List Nat) (B:List Bool) (most k p:Nat) (out:List UInt8):signsE ls ds B most (k+1) p out=signK ls ds B most (signsE ls ds B most k) p out:=rfl
inductive Tok where
 | lit (c:UInt8)
 | cpy (n back:Nat)
def copyL (back:Nat):Nat→List UInt8→List UInt8
 | 0,out=>out
 | n+1,out=>copyL back n (out ++ [out.getD (out.length - back) 0])
theorem copyL_len (back:Nat):∀ n out,(copyL back n out).length=out.length+n
 | 0,_=>rfl
 | n+1,out=>by rw [copyL,copyL_len back n,List.length_append]; simp; omega
def runTk:List Tok→List UInt8→List UInt8
 | [],out=>out
 | .lit c :: r,out=>runTk r (out ++ [c])
 | .cpy n back :: r,out=>runTk r (copyL back n out)
theorem runTk_len:∀ (r:List Tok) (out:List UInt8),out.length≤(runTk r out).length
 | [],_=>Nat.le_refl _
 | .lit c :: r,out=>by have:=runTk_len r (out ++ [c]); rw [List.length_append] at this; show out.length≤(runTk r (out ++ [c])).length; omega
 | .cpy n back :: r,out=>by have:=runTk_len r (copyL back n out); rw [copyL_len] at this; show out.length≤(runTk r (copyL back n out)).length; omega
def okT:List Tok→List UInt8→Prop
 | [],_=>True
 | .lit c :: r,out=>okT r (out ++ [c])
 | .cpy n back :: r,out=>3≤n∧n≤258∧1≤back∧back≤32768∧back≤out.length∧okT r (copyL back n out)
theorem copyE_ok {most back:Nat}:∀ {n:Nat} {out:List UInt8},out.length+n≤most→copyE most back n out=.ok (copyL back n out)
 | 0,_,_=>rfl
 | n+1,out,h=>by
  unfold copyE putE
  rw [if_neg (by omega)]
  simp only
  rw [copyE_ok (by rw [List.length_append]; simp; omega)]; rfl
def fixL:List Nat:=List.replicate 144 8 ++ (List.replicate 112 9 ++ (List.replicate 24 7 ++ List.replicate 8 8))
def fixD:List Nat:=List.replicate 32 5
def fixC (k:Nat):Nat:=if k<144 then 48+k else if k<256 then 400+k - 144 else if k<280 then k - 256 else 192+k - 280
def fixN (k:Nat):Nat:=if k<144 then 8 else if k<256 then 9 else if k<280 then 7 else 8
theorem fix_code:∀ k,k<288→fixL.getD k 0=fixN k∧nxtL fixL (fixN k) k=fixC k:=by decide +kernel
theorem fix_room:krL fixL 15=32768:=by decide +kernel
theorem fixD_code:∀ k,k<32→fixD.getD k 0=5∧nxtL fixD 5 k=k:=by decide +kernel
theorem fixD_room:krL fixD 15=32768:=by decide +kernel
theorem fixD_some:totL fixD 15=32:=by decide +kernel
theorem fix_len:fixL.length=288:=by decide +kernel
theorem fixD_len:fixD.length=32:=by decide +kernel
def signB (k:Nat):List Bool:=bitsM (fixN k) (fixC k)
theorem fixN_ok (k:Nat):0<fixN k∧fixN k≤9:=by unfold fixN; (repeat' split) <;> omega
theorem fix_read {B:List Bool} {p k:Nat} (hk:k<288) (h:standB B p (signB k)):signE fixL B p=.ok (k,p+(signB k).length):=by
 obtain ⟨a,b⟩:=fix_code k hk
 obtain ⟨c,d⟩:=fixN_ok k
 unfold signB at h ⊢
 rw [bitsM_length]
 exact sign_code fix_room (by rw [fix_len]; exact hk) a c (by omega) (by rw [b]; exact h)
theorem fixD_read {B:List Bool} {p k:Nat} (hk:k<32) (h:standB B p (bitsM 5 k)):signE fixD B p=.ok (k,p+5):=by
 obtain ⟨a,b⟩:=fixD_code k hk
 exact sign_code fixD_room (by rw [fixD_len]; exact hk) a (by omega) (by omega) (by rw [b]; exact h)
def tokB:Tok→List Bool
 | .lit c=>signB c.toNat
 | .cpy n back=>signB (lenS n).1 ++ (bitsN (lenS n).2.1 (lenS n).2.2 ++ (bitsM 5 (distS back).1 ++ bitsN (distS back).2.1 (distS back).2.2))
theorem signB_pos (k:Nat):0<(signB k).length:=by unfold signB; rw [bitsM_length]; exact (fixN_ok _).1
attribute [irreducible] signB
theorem len_app2 (t:Tok) (y:List Bool):(tokB t ++ y).length=(tokB t).length+y.length:=List.length_append
theorem toks_readG {ls ds:List Nat} {B:List Bool} (rl:∀ p k,k<288→standB B p (signB k)→signE ls B p=.ok (k,p+(signB k).length)) (rd:∀ p k,k<32→standB B p (bitsM 5 k)→signE ds B p=.ok (k,p+5)) (rt:totL ds 15=32) {most:Nat}:∀ (r:List Tok) (out:List UInt8) (p f:Nat),okT r out→(runTk r out).length≤most→r.length<f→standB B p (r.flatMap tokB ++ signB 256) →
    signsE ls ds B most f p out=.ok (runTk r out,p+(r.flatMap tokB ++ signB 256).length):=by
  intro r
  induction r with
  | nil =>
    intro out p f _ _ hf hs
    obtain ⟨f,rfl⟩:∃ g,f=g+1:=⟨f - 1,by simp at hf; omega⟩
    rw [List.flatMap_nil,List.nil_append] at hs ⊢
    rw [signsE_succ,signK,rl _ _ (by omega) hs]
    simp only
    rw [if_neg (by omega),if_pos (by trivial)]
    unfold runTk; rfl
  | cons t r ih0 =>
   intro out p f ho hl hf hs
   cases t with
   | lit c =>
    obtain ⟨f,rfl⟩:∃ g,f=g+1:=⟨f - 1,by simp at hf; omega⟩
    have hc:c.toNat<256:=c.toNat_lt
    rw [List.flatMap_cons,List.append_assoc] at hs
    obtain ⟨s1,s2⟩:=standB_app hs
    have hlen:(out ++ [c]).length≤most:=Nat.le_trans (runTk_len r (out ++ [c])) hl
    rw [List.length_append] at hlen
    have e:UInt8.ofNat c.toNat=c:=by simp
    have ih:=ih0 (out ++ [c]) (p+(tokB (.lit c)).length) f ho hl (by simp at hf; omega) s2
    rw [signsE_succ,signK,rl _ _ (by omega) (show standB B p (signB c.toNat) from s1)]
    simp only
    rw [if_pos hc,e]
    unfold putE
    rw [if_neg (by simp at hlen; omega)]
    simp only
    rw [show p + (signB c.toNat).length = p + (tokB (.lit c)).length from rfl, ih, List.flatMap_cons, List.append_assoc, len_app2, Nat.add_assoc]; rfl
   | cpy n back =>
    obtain ⟨f,rfl⟩:∃ g,f=g+1:=⟨f - 1,by simp at hf; omega⟩
    obtain ⟨o1,o2,o3,o4,o5,ho⟩:=ho
    rw [List.flatMap_cons,List.append_assoc] at hs
    obtain ⟨s1,s2⟩:=standB_app hs
    have hlen:(copyL back n out).length≤most:=Nat.le_trans (runTk_len r _) hl
    rw [copyL_len] at hlen
    obtain ⟨t1,t2⟩:=standB_app (x:=signB (lenS n).1) s1
    obtain ⟨t3,t4⟩:=standB_app (x:=bitsN (lenS n).2.1 (lenS n).2.2) t2
    obtain ⟨t5,t6⟩:=standB_app (x:=bitsM 5 (distS back).1) t4
    have hsb:0<(signB (lenS n).1).length:=by exact signB_pos _
    have p1:=standB_len t1 hsb
    have p5:=standB_len t5 (by rw [bitsM_length]; omega)
    rw [bitsM_length] at p5
    obtain ⟨l1,l2,l3⟩:=len_read p1 o1 o2 t3
    rw [bitsN_length] at t5 t6 p5
    rw [bitsM_length] at t6
    obtain ⟨d1,d2⟩:=dist_read p5 o3 o4 t6
    have ih:=ih0 (copyL back n out) (p+(tokB (.cpy n back)).length) f ho hl (by simp at hf; omega) s2
    have el:(tokB (.cpy n back)).length=(signB (lenS n).1).length+((lenS n).2.1+(5+(distS back).2.1)):=by
      show (signB (lenS n).1 ++ (_ ++ (_ ++ _))).length=_
      rw [List.length_append,List.length_append,List.length_append,bitsN_length,bitsM_length,bitsN_length]
    rw [signsE_succ,signK,rl _ _ (by omega) t1]
    simp only
    rw [if_neg (by omega),if_neg (by omega),l1]
    simp only
    rw [rt,if_neg (by omega),rd _ _ (by omega) t5]
    simp only
    rw [d1]
    simp only
    rw [if_neg (by omega),copyE_ok hlen]
    simp only
    rw [show p+(signB (lenS n).1).length+(lenS n).2.1+5+(distS back).2.1=p+(tokB (.cpy n back)).length by rw [el]; omega,ih,List.flatMap_cons,List.append_assoc,len_app2,Nat.add_assoc]; rfl
theorem toks_read {B:List Bool} {most:Nat} (r:List Tok) (out:List UInt8) (p f:Nat) (h1:okT r out) (h2:(runTk r out).length≤most) (h3:r.length<f) (h4:standB B p (r.flatMap tokB ++ signB 256)) :
  signsE fixL fixD B most f p out=.ok (runTk r out,p+(r.flatMap tokB ++ signB 256).length) :=
 toks_readG (fun _ _ h=>fix_read h) (fun _ _ h=>fixD_read h) fixD_some r out p f h1 h2 h3 h4
end Go.Proofs.YtakolikdebfkeaaGreatDoor
namespace Go.Proofs.YtakolikdebfkeaaGreatDoor
def bytesE (B:List Bool) (most:Nat):Nat→Nat→List UInt8→RdE (List UInt8)
 | 0=>fun p out=>.ok (out,p)
 | n+1=>fun p out=>match numE B p 8 with
  | .error e=>.error e
  | .ok (c,p1)=>match putE most out (UInt8.ofNat c) with
   | .error e=>.error e
   | .ok o=>bytesE B most n p1 o
def storedE (B:List Bool) (most p:Nat) (out:List UInt8):RdE (List UInt8):=match numE B ((p+7) / 8 * 8) 16 with
 | .error e=>.error e
 | .ok (n,p1)=>match numE B p1 16 with
  | .error e=>.error e
  | .ok (m,p2)=>if m=65535 - n then bytesE B most n p2 out else .error 4
def goodL (ls:List Nat) (none:Bool):Bool:=decide (krL ls 15=32768) || (decide (totL ls 15=1) && decide (cntL ls 1=1)) || (none && decide (totL ls 15=0))
def belowE (B:List Bool) (p n most:Nat):RdE Nat:=match numE B p n with
 | .error e=>.error e
 | .ok (k,p1)=>if most≤k then .error 4 else .ok (k,p1)
def blockE (td:List Bool→Nat→RdE (List Nat × List Nat)) (B:List Bool) (most ty p:Nat) (out:List UInt8):RdE (List UInt8) :=
 if ty=0 then storedE B most p out
 else if ty=1 then signsE fixL fixD B most (B.length+1) p out
 else if ty=2 then match td B p with
  | .error e=>.error e
  | .ok (c,p1)=>signsE c.1 c.2 B most (B.length+1) p1 out
 else .error 4
def rawK (td:List Bool→Nat→RdE (List Nat × List Nat)) (B:List Bool) (most:Nat) (K:Nat→List UInt8→RdE (List UInt8)) (p:Nat) (out:List UInt8):RdE (List UInt8):=match bitE B p with
 | .error e=>.error e
 | .ok (last,p1)=>match numE B p1 2 with
  | .error e=>.error e
  | .ok (ty,p2)=>match blockE td B most ty p2 out with
   | .error e=>.error e
   | .ok (o,p3)=>if last=1 then .ok (o,p3) else K p3 o
def rawGo (td:List Bool→Nat→RdE (List Nat × List Nat)) (B:List Bool) (most:Nat):Nat→Nat→List UInt8→RdE (List UInt8)
 | 0=>fun _ _=>.error 0
 | k+1=>rawK td B most (rawGo td B most k)
def rawFin:RdE (List UInt8)→RdE (List UInt8)
 | .error e=>.error e
 | .ok (o,p)=>.ok (o,(p+7) / 8)
def rawE (td:List Bool→Nat→RdE (List Nat × List Nat)) (b:List UInt8) (most:Nat):RdE (List UInt8):=rawFin (rawGo td (bitsOf b) most (8 * b.length+1) 0 [])
variable {td : List Bool → Nat → RdE (List Nat × List Nat)}
def valB:List Bool→Nat
 | []=>0
 | b :: r=>b.toNat+2 * valB r
theorem valB_lt:∀ x:List Bool,valB x<2 ^ x.length
 | []=>by simp [valB]
 | b :: r=>by
  have:=valB_lt r
  rw [valB,List.length_cons,Nat.pow_succ]
  cases b <;> simp <;> omega
theorem valB_bit:∀ (x:List Bool) (j:Nat),(valB x).testBit j=x.getD j false
 | [],j=>by simp [valB]
 | b :: r,j=>by
  have h:valB (b :: r)=b.toNat+2 * valB r:=rfl
  cases j with
  | zero =>
   rw [h,Nat.testBit_zero]
   cases b <;> simp <;> omega
  | succ j =>
   rw [Nat.testBit_succ,h,show (b.toNat+2 * valB r) / 2=valB r by cases b <;> simp <;> omega,valB_bit r j]; rfl
def packB:Nat→List Bool→List UInt8
 | 0,_=>[]
 | k+1,W=>if W=[] then [] else UInt8.ofNat (valB (W.take 8)) :: packB k (W.drop 8)
def packW (W:List Bool):List UInt8:=packB (W.length+1) W
theorem byteB_val {x:List Bool} (h:x.length≤8):byteB (UInt8.ofNat (valB x))=x ++ List.replicate (8 - x.length) false:=by
 have hv:valB x<256:=by
  have h1:=valB_lt x
  have h2:2 ^ x.length≤2 ^ 8:=Nat.pow_le_pow_right (by omega) h
  omega
 apply List.ext_getElem?
 intro j
 unfold byteB
 rw [UInt8.toNat_ofNat',Nat.mod_eq_of_lt hv,List.getElem?_map]
 by_cases hj:j<8
 ·rw [List.getElem?_range hj,Option.map_some,valB_bit]
  by_cases hx:j<x.length
  ·rw [List.getElem?_append_left hx,List.getD_eq_getElem?_getD,List.getElem?_eq_getElem hx]; rfl
  ·rw [List.getElem?_append_right (by omega),List.getElem?_replicate,if_pos (by omega),List.getD_eq_getElem?_getD,List.getElem?_eq_none (by omega)]; rfl
 ·rw [List.getElem?_eq_none (by simp; omega),List.getElem?_eq_none (by simp; omega)]; rfl
theorem packB_bits:∀ (k:Nat) (W:List Bool),W.length<k→∃ z,bitsOf (packB k W)=W ++ List.replicate z false∧z<8∧(packB k W).length=(W.length+7) / 8
 | k+1,W,h=>by
  by_cases hW:W=[]
  ·subst hW; exact ⟨0,rfl,by omega,rfl⟩
  ·have hl:0<W.length:=List.length_pos_iff.2 hW
   rw [packB,if_neg hW]
   have e:∀ (c:UInt8) (l:List UInt8),bitsOf (c :: l)=byteB c ++ bitsOf l:=fun _ _=>rfl
   obtain ⟨z,h1,h2,h3⟩:=packB_bits k (W.drop 8) (by rw [List.length_drop]; omega)
   rw [e,byteB_val (by rw [List.length_take]; omega),List.length_take]
   rw [List.length_drop] at h3
   by_cases h8:8≤W.length
   ·refine ⟨z,?_,h2,by rw [List.length_cons,h3]; omega⟩
    rw [Nat.min_eq_left h8,Nat.sub_self,List.replicate_zero,List.append_nil,h1,← List.append_assoc,List.take_append_drop]
   ·refine ⟨8 - W.length,?_,by omega,by rw [List.length_cons,h3]; omega⟩
    have hd:W.drop 8=[]:=List.drop_eq_nil_of_le (by omega)
    rw [hd] at h1 ⊢
    have hz:packB k []=[]:=by
     cases k with
     | zero=>rfl
     | succ k=>rfl
    rw [hz,Nat.min_eq_right (by omega),List.take_of_length_le (by omega)]
    simp [bitsOf]
theorem packW_bits (W:List Bool):∃ z,bitsOf (packW W)=W ++ List.replicate z false∧z<8∧(packW W).length=(W.length+7) / 8:=packB_bits _ W (by omega)
theorem bitsOf_app (a b:List UInt8):bitsOf (a ++ b)=bitsOf a ++ bitsOf b:=by unfold bitsOf; rw [List.flatMap_append]
def fixW (r:List Tok):List Bool:=bitsN 3 3 ++ (r.flatMap tokB ++ signB 256)
theorem tokB_pos (t:Tok):0<(tokB t).length:=by
 cases t with
 | lit c=>exact signB_pos _
 | cpy n back =>
  have:=signB_pos (lenS n).1
  show 0<(signB (lenS n).1 ++ _).length
  rw [List.length_append]; omega
theorem toks_count:∀ r:List Tok,r.length≤(r.flatMap tokB).length
 | []=>Nat.le_refl _
 | t :: r=>by
  have h1:=toks_count r
  have h2:=tokB_pos t
  rw [List.flatMap_cons,List.length_append,List.length_cons]; omega
theorem fixW_raw (r:List Tok) {more:List UInt8} {most:Nat} (ho:okT r []) (hl:(runTk r []).length≤most):rawE td (packW (fixW r) ++ more) most=.ok (runTk r [],(packW (fixW r)).length):=by
 obtain ⟨z,h1,h2,h3⟩:=packW_bits (fixW r)
 have hB:bitsOf (packW (fixW r) ++ more)=fixW r ++ (List.replicate z false ++ bitsOf more):=by rw [bitsOf_app,h1,List.append_assoc]
 unfold rawE
 rw [hB]
 generalize hF:List.replicate z false ++ bitsOf more=F
 have hs:standB (fixW r ++ F) 0 (fixW r):=fun j hj=>by rw [Nat.zero_add,List.getElem?_append_left hj]
 have hlen:(fixW r ++ F).length=8 * (packW (fixW r) ++ more).length:=by rw [← hF,← hB,bitsOf_length]
 obtain ⟨s1,s2⟩:=standB_app (x:=bitsN 3 3) hs
 rw [bitsN_length] at s2
 have hw:(fixW r).length=3+(r.flatMap tokB ++ signB 256).length:=by unfold fixW; rw [List.length_append,bitsN_length]
 have hb0:bitE (fixW r ++ F) 0=.ok (1,1):=by
  unfold bitE
  have:=s1 0 (by rw [bitsN_length]; omega)
  rw [show (0:Nat)+0=0 from rfl] at this
  rw [this,bitsN_get (by omega)]; rfl
 have hb1:numE (fixW r ++ F) 1 2=.ok (1,1+2):=by
  refine num_read (by rw [List.length_append,hw]; omega) (by omega) fun j hj=>?_
  rw [bitsN_length] at hj
  have:=s1 (1+j) (by rw [bitsN_length]; omega)
  rw [Nat.zero_add] at this
  rw [this,bitsN_get (by omega),bitsN_get hj]
  match j,hj with
  | 0,_=>rfl
  | 1,_=>rfl
 have hc:=toks_count r
 have hr:=toks_read (B:=fixW r ++ F) (most:=most) r [] 3 ((fixW r ++ F).length+1) ho hl (by rw [List.length_append,hw,List.length_append]; omega) s2
 generalize fixW r ++ F=B at *
 show rawFin (rawK td B most (rawGo td B most (8 * (packW (fixW r) ++ more).length)) 0 [])=_
 unfold rawK
 rw [hb0]
 simp only
 rw [hb1]
 simp only
 unfold blockE
 rw [if_neg (by omega),if_pos (by trivial),show 1+2=3 from rfl,hr]
 simp only
 rw [if_pos (by trivial),h3,hw]; rfl
end Go.Proofs.YtakolikdebfkeaaGreatDoor
namespace Go.Proofs.YtakolikdebfkeaaGreatDoor
variable {td : List Bool → Nat → RdE (List Nat × List Nat)}
theorem bitsN_app (a c v:Nat):bitsN (a+c) v=bitsN a v ++ bitsN c (v / 2 ^ a):=by
 apply List.ext_getElem?
 intro j
 by_cases hj:j<a
 ·rw [bitsN_get (by omega),List.getElem?_append_left (by rw [bitsN_length]; exact hj),bitsN_get hj]
 ·rw [List.getElem?_append_right (by rw [bitsN_length]; omega),bitsN_length]
  by_cases h2:j<a+c
  ·rw [bitsN_get h2,bitsN_get (by omega),Nat.testBit_div_two_pow,show j - a+a=j by omega]
  ·rw [List.getElem?_eq_none (by rw [bitsN_length]; omega),List.getElem?_eq_none (by rw [bitsN_length]; omega)]
theorem bitsOf_cons (c:UInt8) (l:List UInt8):bitsOf (c :: l)=bitsN 8 c.toNat ++ bitsOf l:=rfl
theorem stand_bytes (A x R:List UInt8):standB (bitsOf (A ++ (x ++ R))) (8 * A.length) (bitsOf x):=by
 rw [bitsOf_app,bitsOf_app,← bitsOf_length,← List.append_assoc]
 exact standB_self _ _ _
theorem bytes_read {B:List Bool} {most:Nat}:∀ (x out:List UInt8) (p:Nat),p≤B.length→out.length+x.length≤most→standB B p (bitsOf x)→bytesE B most x.length p out=.ok (out ++ x,p+8 * x.length)
 | [],out,p,_,_,_=>by rw [List.append_nil]; rfl
 | c :: x,out,p,hp,hm,hs=>by
  rw [bitsOf_cons] at hs
  obtain ⟨s1,s2⟩:=standB_app hs
  rw [bitsN_length] at s2
  have hl:=standB_len s1 (by rw [bitsN_length]; omega)
  rw [bitsN_length] at hl
  have hr:=num_read hp (show c.toNat<2 ^ 8 from c.toNat_lt) s1
  have e:UInt8.ofNat c.toNat=c:=by simp
  rw [List.length_cons] at hm ⊢
  have ih:=bytes_read (most:=most) x (out ++ [c]) (p+8) hl (by rw [List.length_append]; simp; omega) s2
  simp only [bytesE,hr]
  unfold putE
  rw [if_neg (by omega),e]
  simp only
  rw [ih,List.append_assoc,List.singleton_append,show p+8+8 * x.length=p+8 * (x.length+1) by omega]
def storH (last n:Nat):List UInt8:=[UInt8.ofNat last,UInt8.ofNat (n % 256),UInt8.ofNat (n / 256),UInt8.ofNat (255 - n % 256),UInt8.ofNat (255 - n / 256)]
theorem bits16 {lo hi:Nat} (h1:lo<256) (h2:hi<256):bitsN 8 (UInt8.ofNat lo).toNat ++ bitsN 8 (UInt8.ofNat hi).toNat=bitsN 16 (lo+256 * hi):=by
 have e1:(UInt8.ofNat lo).toNat=lo:=by rw [UInt8.toNat_ofNat']; omega
 have e2:(UInt8.ofNat hi).toNat=hi:=by rw [UInt8.toNat_ofNat']; omega
 rw [e1,e2,show (16:Nat)=8+8 from rfl,bitsN_app 8 8]
 have h3:(lo+256 * hi) / 2 ^ 8=hi:=by omega
 have h4:bitsN 8 (lo+256 * hi)=bitsN 8 lo:=by
  apply List.ext_getElem?
  intro j
  by_cases hj:j<8
  ·rw [bitsN_get hj,bitsN_get hj]
   congr 1
   have:lo=(lo+256 * hi) % 2 ^ 8:=by omega
   rw [this,Nat.testBit_mod_two_pow,← this]
   simp [hj]
  ·rw [List.getElem?_eq_none (by rw [bitsN_length]; omega),List.getElem?_eq_none (by rw [bitsN_length]; omega)]
 rw [h3,h4]
theorem stored_read {B:List Bool} {most last:Nat} {x out:List UInt8} {p:Nat} (hl:last<2) (hn:x.length≤65535) (hm:out.length+x.length≤most) (hp:p % 8=0) (hs:standB B p (bitsOf (storH last x.length ++ x))) (K:Nat→List UInt8→RdE (List UInt8)) :
  rawK td B most K p out=if last=1 then .ok (out ++ x,p+40+8 * x.length) else K (p+40+8 * x.length) (out ++ x):=by
 rw [bitsOf_app] at hs
 obtain ⟨s1,s2⟩:=standB_app hs
 rw [bitsOf_length,show 8 * (storH last x.length).length=40 from rfl] at s2
 unfold storH at s1
 rw [bitsOf_cons] at s1
 obtain ⟨a1,a2⟩:=standB_app s1
 rw [bitsN_length,bitsOf_cons,bitsOf_cons,← List.append_assoc,bits16 (by omega) (by omega)] at a2
 obtain ⟨b1,b2⟩:=standB_app a2
 rw [bitsN_length,bitsOf_cons,bitsOf_cons,← List.append_assoc,bits16 (by omega) (by omega)] at b2
 obtain ⟨c1,-⟩:=standB_app b2
 have el:(UInt8.ofNat last).toNat=last:=by rw [UInt8.toNat_ofNat']; omega
 rw [el] at a1
 have h0:bitE B p=.ok (last,p+1):=by
  unfold bitE
  have:=a1 0 (by rw [bitsN_length]; omega)
  rw [Nat.add_zero,bitsN_get (by omega)] at this
  rw [this]
  simp only [toNat_testBit,Nat.mod_eq_of_lt hl]
 have l8:=standB_len a1 (by rw [bitsN_length]; omega)
 rw [bitsN_length] at l8
 have l24:=standB_len b1 (by rw [bitsN_length]; omega)
 rw [bitsN_length] at l24
 have l40:=standB_len c1 (by rw [bitsN_length]; omega)
 rw [bitsN_length] at l40
 have h1:numE B (p+1) 2=.ok (0,p+1+2):=by
  refine num_read (by omega) (by omega) fun j hj=>?_
  rw [bitsN_length] at hj
  have:=a1 (1+j) (by rw [bitsN_length]; omega)
  rw [← Nat.add_assoc] at this
  rw [this,bitsN_get (by omega),bitsN_get hj]
  congr 1
  rw [Nat.testBit_lt_two_pow (x:=last) (i:=1+j) (by rw [Nat.add_comm,Nat.pow_succ]; have:=Nat.pow_pos (n:=j) (by omega:0<2); omega),Nat.zero_testBit]
 have e8:(p+1+2+7) / 8 * 8=p+8:=by omega
 have h2:=num_read (by omega) (by omega) b1
 have h3:=num_read (by omega) (by omega) c1
 have h4:=bytes_read (most:=most) x out (p+40) (by omega) hm s2
 unfold rawK
 rw [h0]
 simp only
 rw [h1]
 simp only
 unfold blockE
 rw [if_pos (by trivial)]
 unfold storedE
 rw [e8,h2]
 simp only
 rw [h3]
 simp only
 rw [show x.length % 256+256 * (x.length / 256)=x.length by omega,if_pos (by omega),show p+8+16+16=p+40 by omega,h4]
def storB:Nat→List UInt8→List UInt8
 | 0,_=>[]
 | k+1,b=>if b.length≤65535 then storH 1 b.length ++ b else storH 0 65535 ++ (b.take 65535 ++ storB k (b.drop 65535))
theorem storB_raw {most:Nat} (more:List UInt8):∀ (k:Nat) (b A out:List UInt8) (f:Nat),b.length<k→out.length+b.length≤most→b.length<f →
  rawGo td (bitsOf (A ++ (storB k b ++ more))) most f (8 * A.length) out=.ok (out ++ b,8 * (A.length+(storB k b).length))
 | k+1,b,A,out,f,hk,hm,hf=>by
  obtain ⟨f,rfl⟩:∃ g,f=g+1:=⟨f - 1,by omega⟩
  show rawK td _ most (rawGo td _ most f) (8 * A.length) out=_
  unfold storB
  by_cases h:b.length≤65535
  ·rw [if_pos h]
   have hs:=stand_bytes A (storH 1 b.length ++ b) more
   rw [stored_read (by omega) h hm (by omega) hs,if_pos rfl,List.length_append,show (storH 1 b.length).length=5 from rfl,show 8 * A.length+40+8 * b.length=8 * (A.length+(5+b.length)) by omega]
  ·rw [if_neg h]
   have ht:(b.take 65535).length=65535:=by rw [List.length_take]; omega
   have hs:=stand_bytes A (storH 0 (b.take 65535).length ++ b.take 65535) (storB k (b.drop 65535) ++ more)
   have e:A ++ (storH 0 65535 ++ (b.take 65535 ++ storB k (b.drop 65535)) ++ more)=A ++ ((storH 0 (b.take 65535).length ++ b.take 65535) ++ (storB k (b.drop 65535) ++ more)):=by rw [ht]; simp only [List.append_assoc]
   rw [e,stored_read (by omega) (by omega) (by rw [ht]; omega) (by omega) hs,if_neg (by omega),ht]
   have ih:=storB_raw (most:=most) more k (b.drop 65535) (A ++ (storH 0 65535 ++ b.take 65535)) (out ++ b.take 65535) f (by rw [List.length_drop]; omega) (by rw [List.length_append,ht,List.length_drop]; omega) (by rw [List.length_drop]; omega)
   have hA:(A ++ (storH 0 65535 ++ b.take 65535)).length=A.length+(5+65535):=by rw [List.length_append,List.length_append,ht]; rfl
   rw [hA,List.append_assoc A,List.append_assoc (storH 0 65535),List.append_assoc out,List.take_append_drop] at ih
   rw [List.append_assoc (storH 0 65535),show 8 * A.length+40+8 * 65535=8 * (A.length+(5+65535)) by omega,ih,List.length_append,List.length_append,ht,show (storH 0 65535).length=5 from rfl]
   congr 2
   omega
def storW (b:List UInt8):List UInt8:=storB (b.length+1) b
theorem storB_len:∀ (k:Nat) (b:List UInt8),b.length<k→b.length<(storB k b).length
 | k+1,b,h=>by
  unfold storB
  by_cases h2:b.length≤65535
  ·rw [if_pos h2,List.length_append,show (storH 1 b.length).length=5 from rfl]; omega
  ·rw [if_neg h2,List.length_append,List.length_append,show (storH 0 65535).length=5 from rfl]
   have ih:=storB_len k (b.drop 65535) (by rw [List.length_drop]; omega)
   rw [List.length_drop] at ih
   rw [List.length_take]; omega
theorem storW_raw (b more:List UInt8) {most:Nat} (hm:b.length≤most):rawE td (storW b ++ more) most=.ok (b,(storW b).length):=by
 unfold rawE
 have hl:=storB_len (b.length+1) b (by omega)
 have h:=storB_raw (td:=td) (most:=most) more (b.length+1) b [] [] (8 * (storW b ++ more).length+1) (by omega) (by simpa using hm) (by rw [List.length_append]; unfold storW; omega)
 rw [List.nil_append,List.nil_append,List.length_nil,Nat.mul_zero,Nat.zero_add] at h
 unfold storW at h ⊢
 rw [h]
 show Except.ok (b,(8 * (storB (b.length+1) b).length+7) / 8)=_
 congr 2
 omega
end Go.Proofs.YtakolikdebfkeaaGreatDoor
namespace Go.Proofs.YtakolikdebfkeaaGreatDoor
variable {td : List Bool → Nat → RdE (List Nat × List Nat)}
def same3 (b:List UInt8) (p q:Nat):Bool:=decide (b.getD p 0=b.getD q 0) && decide (b.getD (p+1) 0=b.getD (q+1) 0) && decide (b.getD (p+2) 0=b.getD (q+2) 0)
def lastP (b:List UInt8) (q:Nat):Nat→Option Nat
 | 0=>none
 | k+1=>if same3 b k q=true then some k else lastP b q k
theorem lastP_lt {b:List UInt8} {q:Nat}:∀ {k p:Nat},lastP b q k=some p→p<k
 | k+1,p,h=>by
  unfold lastP at h
  split at h
  ·injection h with h; omega
  ·have:=lastP_lt h; omega
def mlen (b:List UInt8) (p q:Nat):Nat→Nat→Nat
 | 0,n=>n
 | f+1,n=>if n<258∧q+n<b.length∧b.getD (p+n) 0=b.getD (q+n) 0 then mlen b p q f (n+1) else n
theorem mlen_ok (b:List UInt8) (p q:Nat):∀ f n,n≤258→q+n≤b.length→(∀ j,j<n→b.getD (p+j) 0=b.getD (q+j) 0) →
  mlen b p q f n≤258∧q+mlen b p q f n≤b.length∧∀ j,j<mlen b p q f n→b.getD (p+j) 0=b.getD (q+j) 0
 | 0,n,h1,h2,h3=>⟨h1,h2,h3⟩
 | f+1,n,h1,h2,h3=>by
  unfold mlen
  split
  ·rename_i h
   refine mlen_ok b p q f (n+1) (by omega) (by omega) fun j hj=>?_
   rcases Nat.lt_or_ge j n with h4 | h4
   ·exact h3 j h4
   ·obtain rfl:j=n:=by omega
    exact h.2.2
  ·exact ⟨h1,h2,h3⟩
def tokS (b:List UInt8) (q:Nat):Tok :=
 if q+3≤b.length then match lastP b q q with
  | some p=>if q - p≤32768∧3≤mlen b p q 258 0 then .cpy (mlen b p q 258 0) (q - p) else .lit (b.getD q 0)
  | none=>.lit (b.getD q 0)
 else .lit (b.getD q 0)
def stepT:Tok→Nat
 | .lit _=>1
 | .cpy n _=>n
def toksF (b:List UInt8):Nat→Nat→List Tok
 | 0,_=>[]
 | f+1,q=>if q<b.length then tokS b q :: toksF b f (q+stepT (tokS b q)) else []
theorem copyL_take {b:List UInt8} {back:Nat} (h0:0<back):∀ (n q:Nat),back≤q→q+n≤b.length→(∀ j,j<n→b.getD (q - back+j) 0=b.getD (q+j) 0)→copyL back n (b.take q)=b.take (q+n)
 | 0,_,_,_,_=>rfl
 | n+1,q,hq,hl,h=>by
  have e1:(b.take q).length=q:=by rw [List.length_take]; omega
  have e2:(b.take q).getD (q - back) 0=b.getD q 0:=by
   rw [List.getD_eq_getElem?_getD,List.getElem?_take,if_pos (by omega),← List.getD_eq_getElem?_getD]
   have:=h 0 (by omega)
   simpa using this
  have e3:b.take q ++ [b.getD q 0]=b.take (q+1):=by
   rw [List.take_add_one,List.getD_eq_getElem?_getD,List.getElem?_eq_getElem (by omega:q<b.length)]; rfl
  rw [copyL,e1,e2,e3,copyL_take h0 n (q+1) (by omega) (by omega) fun j hj=>?_,show q+1+n=q+(n+1) by omega]
  have:=h (j+1) (by omega)
  rw [show q+1 - back+j=q - back+(j+1) by omega,show q+1+j=q+(j+1) by omega]
  exact this
theorem toks_ok (b:List UInt8):∀ (f q:Nat),q≤b.length→b.length - q≤f→okT (toksF b f q) (b.take q)∧runTk (toksF b f q) (b.take q)=b
 | 0,q,hq,hf=>by
  have:q=b.length:=by omega
  subst this
  exact ⟨trivial,List.take_length⟩
 | f+1,q,hq,hf=>by
  unfold toksF
  by_cases h:q<b.length
  ·rw [if_pos h]
   have lit:okT (.lit (b.getD q 0) :: toksF b f (q+1)) (b.take q)∧runTk (.lit (b.getD q 0) :: toksF b f (q+1)) (b.take q)=b:=by
    have e3:b.take q ++ [b.getD q 0]=b.take (q+1):=by
     rw [List.take_add_one,List.getD_eq_getElem?_getD,List.getElem?_eq_getElem h]; rfl
    show okT (toksF b f (q+1)) (b.take q ++ [b.getD q 0])∧runTk (toksF b f (q+1)) (b.take q ++ [b.getD q 0])=b
    rw [e3]
    exact toks_ok b f (q+1) (by omega) (by omega)
   unfold tokS
   split
   ·split
    ·rename_i p hp
     have hpq:=lastP_lt hp
     split
     ·rename_i hc
      obtain ⟨m1,m2,m3⟩:=mlen_ok b p q 258 0 (by omega) (by omega) (fun j hj=>absurd hj (by omega))
      generalize mlen b p q 258 0=n at *
      have e1:(b.take q).length=q:=by rw [List.length_take]; omega
      have e2:copyL (q - p) n (b.take q)=b.take (q+n):=copyL_take (by omega) n q (by omega) m2 fun j hj=>by
       rw [show q - (q - p)=p by omega]; exact m3 j hj
      obtain ⟨i1,i2⟩:=toks_ok b f (q+n) m2 (by omega)
      refine ⟨⟨hc.2,m1,by omega,hc.1,by rw [e1]; omega,?_⟩,?_⟩
      ·rw [e2]; exact i1
      ·show runTk (toksF b f (q+n)) (copyL (q - p) n (b.take q))=b
       rw [e2]; exact i2
     ·exact lit
    ·exact lit
   ·exact lit
  ·rw [if_neg h]
   have:q=b.length:=by omega
   subst this
   exact ⟨trivial,List.take_length⟩
def dflF (b:List UInt8):List UInt8:=packW (fixW (toksF b b.length 0))
def dflL (b:List UInt8):List UInt8:=if (dflF b).length≤(storW b).length then dflF b else storW b
theorem dflL_raw (b more:List UInt8) {most:Nat} (h:b.length≤most):rawE td (dflL b ++ more) most=.ok (b,(dflL b).length):=by
 unfold dflL
 split
 ·obtain ⟨h1,h2⟩:=toks_ok b b.length 0 (Nat.zero_le _) (by omega)
  have:=fixW_raw (td:=td) (toksF b b.length 0) (more:=more) (most:=most) h1 (by rw [show ([]:List UInt8)=b.take 0 from rfl,h2]; exact h)
  rw [show runTk (toksF b b.length 0) []=b from h2] at this
  exact this
 ·exact storW_raw b more h
end Go.Proofs.YtakolikdebfkeaaGreatDoor
namespace Go.Proofs.YtakolikdebfkeaaGreatDoor
open Go.RowKit
def o8 (n:Nat):UInt8:=UInt8.ofNat n
theorem o8_toNat (n:Nat):(o8 n).toNat=n % 256:=by simp [o8]
theorem ub_o8 (n:Nat):ub (o8 n)=.int .u8 ((n % 256:Nat):Int):=by simp [ub,o8_toNat]
theorem Bs_o8 (n:Nat) (h:n<256):[(.int .u8 (n:Int):AV)]=Bs [o8 n]:=by simp [Bs,ub_o8,Nat.mod_eq_of_lt h]
theorem i64_and (a b:Nat) (ha:a<9223372036854775808) (hb:b<9223372036854775808):bits .and .i64 (a:Int) (b:Int)=((a &&& b:Nat):Int):=by
 have hx:a &&& b<2 ^ 63:=Nat.and_lt_two_pow _ (by omega)
 have h1:(BitVec.ofInt 64 (a:Int)).toNat=a:=by
  rw [BitVec.ofInt_natCast,BitVec.toNat_ofNat]; exact Nat.mod_eq_of_lt (by omega)
 have h2:(BitVec.ofInt 64 (b:Int)).toNat=b:=by
  rw [BitVec.ofInt_natCast,BitVec.toNat_ofNat]; exact Nat.mod_eq_of_lt (by omega)
 show IntKind.i64.wrap ((BitVec.ofInt 64 (a:Int) &&& BitVec.ofInt 64 (b:Int)).toNat:Int)=_
 rw [BitVec.toNat_and,h1,h2,IntWalk.i64_in _ (by omega)]
theorem i64_or (a b:Nat) (ha:a<9223372036854775808) (hb:b<9223372036854775808):bits .or .i64 (a:Int) (b:Int)=((a ||| b:Nat):Int):=by
 have hx:a ||| b<2 ^ 63:=Nat.or_lt_two_pow (by omega) (by omega)
 have h1:(BitVec.ofInt 64 (a:Int)).toNat=a:=by
  rw [BitVec.ofInt_natCast,BitVec.toNat_ofNat]; exact Nat.mod_eq_of_lt (by omega)
 have h2:(BitVec.ofInt 64 (b:Int)).toNat=b:=by
  rw [BitVec.ofInt_natCast,BitVec.toNat_ofNat]; exact Nat.mod_eq_of_lt (by omega)
 show IntKind.i64.wrap ((BitVec.ofInt 64 (a:Int) ||| BitVec.ofInt 64 (b:Int)).toNat:Int)=_
 rw [BitVec.toNat_or,h1,h2,IntWalk.i64_in _ (by omega)]
end Go.Proofs.YtakolikdebfkeaaGreatDoor
namespace Go.Proofs.YtakolikdebfkeaaGreatDoor
open Go.RowKit
theorem bitE_lt {b:List UInt8} {p:Nat} (h:p<8 * b.length):bitE (bitsOf b) p=.ok ((b.getD (p / 8) 0).toNat / 2 ^ (p % 8) % 2,p+1):=by
 unfold bitE
 rw [bitsOf_get b p h]
 simp only [Nat.toNat_testBit]
theorem bitE_ge {b:List UInt8} {p:Nat} (h:8 * b.length≤p):bitE (bitsOf b) p=.error 3:=by
 unfold bitE
 rw [List.getElem?_eq_none (by rw [bitsOf_length]; exact h)]
theorem and1:∀ k:Nat,k<256→bits BinOp.and IntKind.i64 (k:Int) 1=((k % 2:Nat):Int):=by decide +kernel
def wrongV (e:Nat):AV:=.iface 179 (.agg [(1,.int .i64 (e:Int))])
def ifailX:XSpec:=fun xs hp=>match xs,hp with
 | [.int .i64 e],[]=>some (wrongV e.toNat,0≤e)
 | _,_=>none
theorem ifail_ok:FnPX Tryz.prog 128 ifailX:=by
 refine fn_slimX (ΦX:=phXL []) Tryz.func128 s_ifail (Φ:=phiL []) phi_nil phXL_nil ?_
 intro xs hp x p hs hp'
 unfold ifailX at hs
 split at hs
 ·injection hs with hs; injection hs with e1 e2; subst e1 e2
  rename_i e
  obtain ⟨k,rfl⟩:∃ k:Nat,e=k:=⟨e.toNat,by omega⟩
  refine ⟨len_le (by kernel_rfl),?_⟩
  simp only [c_ifail,wrongV,Int.toNat_natCast,go_sem,reduceDiv,reduceMod,↓reduceIte,reduceSub,reduceCtorEq]
 ·cases hs
def inpOk (k:Nat) (ps:List AV):Prop:=ps=Bs (unB ps)∧(unB ps).length≤1000000000∧(k=1∨ps=[])
theorem inp_k {k:Nat} {b:List UInt8} (h:inpOk k (Bs b)) (h0:0<b.length):k=1:=by
 rcases h.2.2 with h | h
 ·exact h
 ·have:=congrArg List.length h; rw [Bs_length] at this; simp at this; rw [this] at h0; simp at h0
theorem inp_len {k:Nat} {b:List UInt8} (h:inpOk k (Bs b)):b.length≤1000000000:=by have:=h.2.1; rw [unB_Bs] at this; exact this
def ibitS:Spec:=fun xs hp=>match xs,hp with
 | [.ref 0 0 0],[.cells t [(1,.sl k ps),(1,.int .i64 a),(1,.own 1 v),(1,.int .i64 m)],.row et es rv ys]=>match bitE (bitsOf (unB ps)) a.toNat with
  | .ok (x,q)=>some ⟨.int .i64 (x:Int),[.cells t [(1,.sl k ps),(1,.int .i64 (q:Int)),(1,.own 1 v),(1,.int .i64 m)],.row et es rv ys],inpOk k ps∧0≤a⟩
  | .error _=>none
 | _,_=>none
def ibitX:XSpec:=fun xs hp=>match xs,hp with
 | [.ref 0 0 0],[.cells t [(1,.sl k ps),(1,.int .i64 a),(1,.own 1 v),(1,.int .i64 m)],.row et es rv ys]=>match bitE (bitsOf (unB ps)) a.toNat with
  | .ok _=>none
  | .error e=>some (wrongV e,inpOk k ps∧0≤a∧a≤8000000008)
 | _,_=>none
theorem ibit_ok:FnOk Tryz.prog 122 ibitS:=by
 refine fn_slim2 Tryz.func122 s_ibit (Φ:=phiL []) phi_nil ?_
 intro xs hp r hs hp'
 unfold ibitS at hs
 split at hs
 ·rename_i t k ps a v m et es rv ys
  split at hs
  ·rename_i x q hb
   injection hs with hs; subst hs
   obtain ⟨h1,h2⟩:=hp'
   obtain ⟨p,rfl⟩:∃ p:Nat,a=p:=⟨a.toNat,by omega⟩
   have hps:=h1.1
   generalize unB ps=b at *
   subst hps
   have hl:=inp_len h1
   rw [Int.toNat_natCast] at hb
   have hlt:p<8 * b.length:=by
    rcases Nat.lt_or_ge p (8 * b.length) with h | h
    ·exact h
    ·rw [bitE_ge h] at hb; cases hb
   rw [bitE_lt hlt] at hb
   injection hb with hb; injection hb with e1 e2; subst e1 e2
   obtain rfl:=inp_k h1 (by omega)
   refine ⟨len_le (by kernel_rfl),?_⟩
   have c1:decide ((8:Int) * (b.length:Int)≤(p:Int))=false:=decide_eq_false (by omega)
   have e1:(p:Int).tdiv 8=((p / 8:Nat):Int):=by rw [Int.tdiv_eq_ediv_of_nonneg (by omega)]; omega
   have e2:(p:Int).tmod 8=((p % 8:Nat):Int):=by rw [Int.tmod_eq_emod_of_nonneg (by omega)]; omega
   have hu:=(b.getD (p / 8) 0).toNat_lt
   have e3:((b.getD (p / 8) 0).toNat:Int) / 2 ^ (p % 8)=(((b.getD (p / 8) 0).toNat / 2 ^ (p % 8):Nat):Int):=by norm_cast
   have hv:(b.getD (p / 8) 0).toNat / 2 ^ (p % 8)<256:=Nat.lt_of_le_of_lt (Nat.div_le_self _ _) (by omega)
   have e4:=and1 _ hv
   simp only [c_ibit,r_ibit,c1,e1,e2,e3,e4,Int.toNat_natCast,Bs_len,go_sem,reduceDiv,reduceMod,↓reduceIte,Nat.reduceBEq,reduceSub,reduceAdd,reduceCtorEq,Int.reduceNe]
   clear e3 e4
   generalize (b.getD (p / 8) 0).toNat / 2 ^ (p % 8)=z at *
   (repeat' apply And.intro)
   all_goals first | omega | (first | omega | (simp only [lenOk,bytesOk,inI,IntKind.bits,List.length_append,Bs_len,List.length_cons,List.length_nil,List.length_map,List.length_take,List.length_drop,List.length_replicate]; omega)) | rfl | trivial
  ·cases hs
 ·cases hs
theorem ibit_px:FnPX Tryz.prog 122 ibitX:=by
 refine fn_slimX (ΦX:=phXL [(128,[],ifailX)]) Tryz.func122 s_ibit (Φ:=phiL []) phi_nil (phXL_cons ifail_ok (by kernel_rfl) phXL_nil) ?_
 intro xs hp x p hs hp'
 unfold ibitX at hs
 split at hs
 ·rename_i t k ps a v m et es rv ys
  split at hs
  ·cases hs
  ·rename_i e hb
   injection hs with hs; injection hs with e1 e2; subst e1 e2
   obtain ⟨h1,h2,h3⟩:=hp'
   obtain ⟨p,rfl⟩:∃ p:Nat,a=p:=⟨a.toNat,by omega⟩
   have hps:=h1.1
   generalize unB ps=b at *
   subst hps
   have hl:=inp_len h1
   rw [Int.toNat_natCast] at hb
   have hlt:8 * b.length≤p:=by
    rcases Nat.lt_or_ge p (8 * b.length) with h | h
    ·rw [bitE_lt h] at hb; cases hb
    ·exact h
   rw [bitE_ge hlt] at hb
   injection hb with hb; subst hb
   refine ⟨len_le (by kernel_rfl),?_⟩
   have c1:decide ((8:Int) * (b.length:Int)≤(p:Int))=true:=decide_eq_true (by omega)
   simp only [c_ibit,c1,ifailX,wrongV,Bs_len,go_sem,reduceDiv,reduceMod,↓reduceIte,reduceSub,reduceAdd,reduceCtorEq,Int.reduceLE,Int.reduceToNat]
   (first | omega | (simp only [inI]; omega))
 ·cases hs
theorem or_up64 (k b e:Nat) (hk:k<2 ^ e) (hb:b<2) (he:e<40):bits .or .i64 (k:Int) ((b:Int) * 2 ^ e)=((k+b * 2 ^ e:Nat):Int):=by
 have h1:(2:Nat) ^ e<2 ^ 40:=Nat.pow_lt_pow_right (by omega) he
 have h2:b * 2 ^ e≤2 ^ e:=by
  have:=Nat.mul_le_mul_right (2 ^ e) (show b≤1 by omega)
  omega
 have e1:(b:Int) * 2 ^ e=((b * 2 ^ e:Nat):Int):=by simp
 rw [e1,i64_or _ _ (by omega) (by omega),Nat.or_comm,nat_join e (b * 2 ^ e) k (by simp) hk,Nat.add_comm]
theorem numE_ok {B:List Bool} {p n x q:Nat} (h:numE B p n=.ok (x,q)):p+n≤B.length∧x=numB B p n∧q=p+n:=by
 unfold numE at h
 split at h
 ·injection h with h; injection h with e1 e2; exact ⟨by assumption,e1.symm,e2.symm⟩
 ·cases h
theorem numE_er {B:List Bool} {p n e:Nat} (h:numE B p n=.error e):B.length<p+n∧e=3:=by
 unfold numE at h
 split at h
 ·cases h
 ·injection h with h; exact ⟨by omega,h.symm⟩
theorem numB_bit {b:List UInt8} {p n:Nat} (h:p+n<8 * b.length):bitE (bitsOf b) (p+n)=.ok (((bitsOf b).getD (p+n) false).toNat,p+n+1):=by
 unfold bitE
 rw [List.getElem?_eq_getElem (by rw [bitsOf_length]; exact h)]
 simp [List.getD_eq_getElem?_getD,List.getElem?_eq_getElem (show p+n<(bitsOf b).length by rw [bitsOf_length]; exact h)]
def inumS:Spec:=fun xs hp=>match xs,hp with
 | [.ref 0 0 0,.int .i64 n],[.cells t [(1,.sl k ps),(1,.int .i64 a),(1,.own 1 v),(1,.int .i64 m)],.row et es rv ys]=>match numE (bitsOf (unB ps)) a.toNat n.toNat with
  | .ok (x,q)=>some ⟨.int .i64 (x:Int),[.cells t [(1,.sl k ps),(1,.int .i64 (q:Int)),(1,.own 1 v),(1,.int .i64 m)],.row et es rv ys],inpOk k ps∧0≤a∧0≤n∧n<40⟩
  | .error _=>none
 | _,_=>none
def inumX:XSpec:=fun xs hp=>match xs,hp with
 | [.ref 0 0 0,.int .i64 n],[.cells t [(1,.sl k ps),(1,.int .i64 a),(1,.own 1 v),(1,.int .i64 m)],.row et es rv ys]=>match numE (bitsOf (unB ps)) a.toNat n.toNat with
  | .ok _=>none
  | .error e=>some (wrongV e,inpOk k ps∧0≤a∧a≤8 * ((unB ps).length:Int)∧0≤n∧n<40)
 | _,_=>none
theorem inum_ok:FnOk Tryz.prog 123 inumS:=by
 refine fn_slim2 Tryz.func123 s_inum (Φ:=phiL [(122,[],ibitS)]) (phi_cons ibit_ok (by kernel_rfl) phi_nil) ?_
 intro xs hp r hs hp'
 unfold inumS at hs
 split at hs
 ·rename_i n t k ps a v m et es rv ys
  split at hs
  ·rename_i x q hb
   injection hs with hs; subst hs
   obtain ⟨h1,h2,h3,h4⟩:=hp'
   obtain ⟨p,rfl⟩:∃ p:Nat,a=p:=⟨a.toNat,by omega⟩
   obtain ⟨n,rfl⟩:∃ p:Nat,n=p:=⟨n.toNat,by omega⟩
   have hps:=h1.1
   generalize unB ps=b at *
   subst hps
   have hl:=inp_len h1
   simp only [Int.toNat_natCast] at hb
   obtain ⟨hb1,rfl,rfl⟩:=numE_ok hb
   rw [bitsOf_length] at hb1
   refine ⟨len_le (by kernel_rfl),?_⟩
   simp only [c_inum,go_sem,reduceDiv,reduceMod,reduceAdd]
   refine loop2P [] [0,5,7,8] [0,1] (fun i:Nat=>⟨[(0,.ref 0 0 0),(5,.int .i64 (numB (bitsOf b) p i:Int)),(7,.int .i64 (n:Int)),(8,.int .i64 (i:Int))],
    [.cells t [(1,.sl k (Bs b)),(1,.int .i64 ((p+i:Nat):Int)),(1,.own 1 v),(1,.int .i64 m)],.row et es rv ys]⟩)
    (fun i=>i≤n) (fun i=>n - i) 0 (by rfl) (Nat.zero_le _) ⟨rfl,by rfl⟩ (fun i hi R hR=>?_)
   by_cases hil:i<n
   ·have c1:decide ((i:Int)<(n:Int))=true:=decide_eq_true (by omega)
    have hbit:=numB_bit (b:=b) (p:=p) (n:=i) (by omega)
    have hor:=or_up64 (numB (bitsOf b) p i) ((bitsOf b).getD (p+i) false).toNat i (numB_lt _ _ _) (Bool.toNat_lt _) (by omega)
    simp only [b_inum_0,c1,ibitS,unB_Bs,Int.toNat_natCast,hbit,hor,go_sem,reduceDiv,reduceMod,↓reduceIte,Nat.reduceBEq,Nat.reduceLT,reduceAdd,reduceCtorEq]
    have h2:(2:Int) ^ i≤2 ^ 40:=by
     have:(2:Nat) ^ i≤2 ^ 40:=Nat.pow_le_pow_right (by omega) (by omega)
     exact_mod_cast this
    have h3:(0:Int)<2 ^ i:=by exact_mod_cast Nat.two_pow_pos i
    refine ⟨⟨h1,by omega⟩,⟨by omega,?_⟩,by (first | omega | (simp only [inI]; omega)),hR _ (i+1) hil (by omega) rfl⟩
    cases (bitsOf b).getD (p+i) false <;> simp [inI] <;> omega
   ·have c1:decide ((i:Int)<(n:Int))=false:=decide_eq_false (by omega)
    obtain rfl:i=n:=by omega
    simp only [b_inum_0,t_inum_0,r_inum,c1,go_sem,reduceDiv,reduceMod,↓reduceIte,Nat.reduceBEq,reduceAdd,reduceCtorEq]
  ·cases hs
 ·cases hs
theorem inum_px:FnPX Tryz.prog 123 inumX:=by
 refine fn_slimX (ΦX:=phXL [(122,[],ibitX)]) Tryz.func123 s_inum (Φ:=phiL [(122,[],ibitS)]) (phi_cons ibit_ok (by kernel_rfl) phi_nil) (phXL_cons ibit_px (by kernel_rfl) phXL_nil) ?_
 intro xs hp x0 p0 hs hp'
 unfold inumX at hs
 split at hs
 ·rename_i n t k ps a v m et es rv ys
  split at hs
  ·cases hs
  ·rename_i e hb
   injection hs with hs; injection hs with e1 e2; subst e1 e2
   obtain ⟨h1,h2,h2',h3,h4⟩:=hp'
   obtain ⟨p,rfl⟩:∃ p:Nat,a=p:=⟨a.toNat,by omega⟩
   obtain ⟨n,rfl⟩:∃ p:Nat,n=p:=⟨n.toNat,by omega⟩
   have hps:=h1.1
   generalize unB ps=b at *
   subst hps
   have hl:=inp_len h1
   simp only [Int.toNat_natCast] at hb
   obtain ⟨hb1,rfl⟩:=numE_er hb
   rw [bitsOf_length] at hb1
   refine ⟨len_le (by kernel_rfl),?_⟩
   simp only [c_inum,go_sem,reduceDiv,reduceMod,↓reduceIte,reduceAdd]
   refine loop3P [] [0,5,7,8] [0,1] (fun i:Nat=>⟨[(0,.ref 0 0 0),(5,.int .i64 (numB (bitsOf b) p i:Int)),(7,.int .i64 (n:Int)),(8,.int .i64 (i:Int))],
    [.cells t [(1,.sl k (Bs b)),(1,.int .i64 ((p+i:Nat):Int)),(1,.own 1 v),(1,.int .i64 m)],.row et es rv ys]⟩)
    (fun i=>p+i≤8 * b.length) (fun i=>n - i) 0 (by rfl) (by omega) ⟨rfl,by rfl⟩ (fun i hi R hR=>?_)
   have c1:decide ((i:Int)<(n:Int))=true:=decide_eq_true (by omega)
   by_cases hil:p+i<8 * b.length
   ·have hbit:=numB_bit (b:=b) (p:=p) (n:=i) (by omega)
    have hor:=or_up64 (numB (bitsOf b) p i) ((bitsOf b).getD (p+i) false).toNat i (numB_lt _ _ _) (Bool.toNat_lt _) (by omega)
    simp only [b_inum_0,c1,ibitS,ibitX,unB_Bs,Int.toNat_natCast,hbit,hor,go_sem,reduceDiv,reduceMod,↓reduceIte,Nat.reduceBEq,Nat.reduceLT,reduceAdd,reduceCtorEq]
    have h2:(2:Int) ^ i≤2 ^ 40:=by
     have:(2:Nat) ^ i≤2 ^ 40:=Nat.pow_le_pow_right (by omega) (by omega)
     exact_mod_cast this
    have h3:(0:Int)<2 ^ i:=by exact_mod_cast Nat.two_pow_pos i
    refine ⟨⟨h1,by omega⟩,⟨by omega,?_⟩,by (first | omega | (simp only [inI]; omega)),hR _ (i+1) hil (by omega) rfl⟩
    cases (bitsOf b).getD (p+i) false <;> simp [inI] <;> omega
   ·have hbit:=bitE_ge (b:=b) (p:=p+i) (by omega)
    simp only [b_inum_0,c1,ibitX,wrongV,unB_Bs,Int.toNat_natCast,hbit,go_sem,reduceDiv,reduceMod,↓reduceIte,Nat.reduceBEq,reduceAdd,reduceCtorEq]
    exact ⟨h1,by omega,by omega⟩
 ·cases hs
end Go.Proofs.YtakolikdebfkeaaGreatDoor
namespace Go.Proofs.YtakolikdebfkeaaGreatDoor
open Go.RowKit
def cnt0 (ls:List Nat) (l:Nat):Nat:=if l=0 then 0 else cntL ls l
def cntV (ls:List Nat):List Value:=(List.range 16).map fun l=>Value.int .i64 (cnt0 ls l:Int)
def sgK (ls:List Nat) (k:Nat):List Nat:=(List.range k).flatMap fun l=>idxs ls (l+1)
def sgs (ls:List Nat):List Nat:=sgK ls 15
def iV (i:Nat):AV:=.int .i64 (i:Int)
def codeV (ls:List Nat):AV:=.agg [(16,.blob (cntV ls)),(1,.sl 1 ((sgs ls).map iV))]
theorem sgK_succ (ls:List Nat) (k:Nat):sgK ls (k+1)=sgK ls k ++ idxs ls (k+1):=by
 unfold sgK
 rw [List.range_succ,List.flatMap_append]; simp
theorem sgK_len (ls:List Nat):∀ k,(sgK ls k).length=totL ls k
 | 0=>rfl
 | k+1=>by rw [sgK_succ,List.length_append,sgK_len ls k,idxs_length]; rfl
theorem sgK_pre (ls:List Nat) (k d:Nat):∃ t,sgK ls (k+d)=sgK ls k ++ t:=by
 induction d with
 | zero=>exact ⟨[],by simp⟩
 | succ d ih =>
  obtain ⟨t,ht⟩:=ih
  exact ⟨t ++ idxs ls (k+d+1),by rw [show k+(d+1)=k+d+1 by omega,sgK_succ,ht,List.append_assoc]⟩
theorem sgs_len (ls:List Nat):(sgs ls).length=totL ls 15:=sgK_len ls 15
theorem sgs_get (ls:List Nat) {l r:Nat} (hl:l<15) (hr:r<cntL ls (l+1)):(sgs ls)[totL ls l+r]?=(idxs ls (l+1))[r]?:=by
 obtain ⟨t,ht⟩:=sgK_pre ls (l+1) (15 - (l+1))
 rw [show l+1+(15 - (l+1))=15 by omega] at ht
 unfold sgs
 have hlen:=sgK_len ls (l+1)
 have h1:totL ls (l+1)=totL ls l+cntL ls (l+1):=rfl
 rw [ht,List.getElem?_append_left (by omega),sgK_succ,List.getElem?_append_right (by rw [sgK_len]; omega),sgK_len,Nat.add_sub_cancel_left]
theorem cntV_get (ls:List Nat) {l:Nat} (hl:l<16) (d:Value):ofC ((cntV ls).getD l d)=.int .i64 (cnt0 ls l:Int):=by
 have:(cntV ls)[l]?=some (Value.int .i64 (cnt0 ls l:Int)):=by
  unfold cntV
  rw [List.getElem?_map,List.getElem?_range hl]; rfl
 rw [List.getD_eq_getElem?_getD,this]; rfl
theorem cntV_len (ls:List Nat):(cntV ls).length=16:=by simp [cntV]
theorem iV_inj {x y:List Nat} (h:x.map iV=y.map iV):x=y:=by
 refine (List.map_inj_right fun a b hab=>?_).1 h
 simp only [iV,AV.int.injEq,true_and] at hab
 omega
theorem codeV_inj {ls ls' : List Nat} (h:codeV ls=codeV ls'):(∀ l,l<16→cnt0 ls l=cnt0 ls' l)∧sgs ls=sgs ls' := by
 unfold codeV at h
 simp only [AV.agg.injEq,List.cons.injEq,Prod.mk.injEq,true_and,AV.blob.injEq,AV.sl.injEq,and_true] at h
 refine ⟨fun l hl=>?_,iV_inj h.2⟩
 have h1:=cntV_get ls hl (Value.int .i64 0)
 rw [h.1,cntV_get ls' hl] at h1
 simp only [AV.int.injEq,true_and] at h1
 omega
theorem cnt_congr {ls ls' : List Nat} (h:codeV ls=codeV ls') {l:Nat} (h0:0<l) (hl:l<16):cntL ls l=cntL ls' l:=by
 have:=(codeV_inj h).1 l hl
 unfold cnt0 at this
 rw [if_neg (by omega),if_neg (by omega)] at this; exact this
theorem tot_congr {ls ls' : List Nat} (h:codeV ls=codeV ls'):∀ k,k≤15→totL ls k=totL ls' k
 | 0,_=>rfl
 | k+1,hk=>by
  have h1:=tot_congr h k (by omega)
  have h2:=cnt_congr h (l:=k+1) (by omega) (by omega)
  show totL ls k+cntL ls (k+1)=totL ls' k+cntL ls' (k+1)
  rw [h1,h2]
theorem fst_congr {ls ls' : List Nat} (h:codeV ls=codeV ls'):∀ k,k≤16→fstL ls k=fstL ls' k
 | 0,_=>rfl
 | k+1,hk=>by
  have h1:=fst_congr h k (by omega)
  unfold fstL
  rw [h1]
  by_cases h0:k=0
  ·rw [if_pos h0,if_pos h0]
  ·rw [if_neg h0,if_neg h0,cnt_congr h (by omega) (by omega)]
theorem idxs_congr {ls ls' : List Nat} (h:codeV ls=codeV ls') {l:Nat} (hl:l<15):idxs ls (l+1)=idxs ls' (l+1):=by
 have hc:=cnt_congr h (l:=l+1) (by omega) (by omega)
 refine List.ext_getElem? fun r=>?_
 rcases Nat.lt_or_ge r (cntL ls (l+1)) with h1 | h1
 ·rw [← sgs_get ls hl h1,← sgs_get ls' hl (by omega),(codeV_inj h).2,tot_congr h l (by omega)]
 ·rw [List.getElem?_eq_none (by rw [idxs_length]; exact h1),List.getElem?_eq_none (by rw [idxs_length]; omega)]
theorem signGo_congr {ls ls' : List Nat} (h:codeV ls=codeV ls') (B:List Bool):∀ k l n p,k+l=15→signGo ls B k l n p=signGo ls' B k l n p
 | 0,_,_,_,_=>rfl
 | k+1,l,n,p,hk=>by
  unfold signGo
  rw [fst_congr h (l+1) (by omega),cnt_congr h (l:=l+1) (by omega) (by omega),idxs_congr h (l:=l) (by omega),tot_congr h (l+1) (by omega),tot_congr h 15 (by omega)]
  split
  ·rfl
  ·split
   ·rfl
   ·split
    ·rfl
    ·exact signGo_congr h B k (l+1) _ _ (by omega)
theorem signE_congr {ls ls' : List Nat} (h:codeV ls=codeV ls'):signE ls=signE ls' := by
 funext B p
 exact signGo_congr h B 15 0 0 p rfl
open Classical in
noncomputable def lsOf (c:AV):List Nat:=if h:∃ ls,c=codeV ls then h.choose else []
theorem lsOf_code (ls:List Nat):codeV (lsOf (codeV ls))=codeV ls:=by
 have h:∃ ls',codeV ls=codeV ls' := ⟨ls,rfl⟩
 unfold lsOf
 rw [dif_pos h]
 exact h.choose_spec.symm
theorem signE_lsOf (ls:List Nat):signE (lsOf (codeV ls))=signE ls:=signE_congr (lsOf_code ls)
theorem tot_lsOf (ls:List Nat):totL (lsOf (codeV ls)) 15=totL ls 15:=tot_congr (lsOf_code ls) 15 (by omega)
theorem signK_congr {ls ls' ds ds' : List Nat} (h1:codeV ls=codeV ls') (h2:codeV ds=codeV ds'):signK ls ds=signK ls' ds' := by
 funext B most K p out
 unfold signK
 rw [signE_congr h1,signE_congr h2,tot_congr h2 15 (by omega)]
theorem signsE_congr {ls ls' ds ds' : List Nat} (h1:codeV ls=codeV ls') (h2:codeV ds=codeV ds'):signsE ls ds=signsE ls' ds' := by
 funext B most k
 induction k with
 | zero=>rfl
 | succ k ih =>
  show signK ls ds B most (signsE ls ds B most k)=signK ls' ds' B most (signsE ls' ds' B most k)
  rw [ih,signK_congr h1 h2]
theorem signsE_lsOf (ls ds:List Nat):signsE (lsOf (codeV ls)) (lsOf (codeV ds))=signsE ls ds:=signsE_congr (lsOf_code ls) (lsOf_code ds)
end Go.Proofs.YtakolikdebfkeaaGreatDoor
