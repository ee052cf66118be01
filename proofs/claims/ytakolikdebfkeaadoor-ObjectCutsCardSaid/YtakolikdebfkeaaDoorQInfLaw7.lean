import Derived.Test.YtakolikdebfkeaaDoorQAMS
import Derived.Shelf.Strings.Builder1
import Derived.Shelf.Strconv.Itoa0
import Derived.Shelf.LaysM
import Derived.Shelf.Strconv.Itoa3
import Derived.Shelf.LaysC
import Derived.Shelf.Strconv.AtoiAll
import Derived.Shelf.Bytes.SlIndexAt
import Derived.Test.YtakolikdebfkeaaDoorProg
import Derived.Lib.IndexMore
import Derived.Lib.IndexAny
import Derived.Lib.Strings
import Derived.Lib.IndexBytes
import Derived.Lib.CountLaws
import Derived.Lib.SplitLaws
import Derived.Lib.Replace
import Derived.Lib.ItoaNum
import Derived.Lib.ItoaMem
import Derived.Lib.AtoiAll
import Derived.Laws.BitsAllLaws
open Nat (reduceDiv reduceMod reduceSub reduceAdd reduceLeDiff reduceEqDiff)
set_option linter.all false
namespace Go.Proofs.YtakolikdebfkeaaDoor
variable {td : List Bool → Nat → RdE (List Nat × List Nat)}
theorem bitsN_app (a c v:Nat):bitsN (a+c) v=bitsN a v ++ bitsN c (v / 2 ^ a):=by
 apply List.ext_getElem?
 intro j
 by_cases hj:j<a
 ·rw [bitsN_get (by omega),List.getElem?_append_left (by rw [bitsN_length]; exact hj),bitsN_get hj]
 ·rw [List.getElem?_append_right (by rw [bitsN_length]; omega),bitsN_length]
  by_cases h2:j<a+c
  ·rw [bitsN_get h2,bitsN_get (by omega),Nat.testBit_div_two_pow,show j - a+a=j by omega]
  ·rw [List.getElem?_eq_none (by rw [bitsN_length]; omega),List.getElem?_eq_none (by rw [bitsN_length]; omega)]
theorem bitsOf_cons (c:UInt8) (l:List UInt8):bitsOf (c :: l)=bitsN 8 c.toNat ++ bitsOf l:=rfl
theorem stand_bytes (A x R:List UInt8):standB (bitsOf (A ++ (x ++ R))) (8 * A.length) (bitsOf x):=by
 rw [bitsOf_app,bitsOf_app,← bitsOf_length,← List.append_assoc]
 exact standB_self _ _ _
theorem bytes_read {B:List Bool} {most:Nat}:∀ (x out:List UInt8) (p:Nat),p≤B.length→out.length+x.length≤most→standB B p (bitsOf x)→bytesE B most x.length p out=.ok (out ++ x,p+8 * x.length)
 | [],out,p,_,_,_=>by rw [List.append_nil]; rfl
 | c :: x,out,p,hp,hm,hs=>by
  rw [bitsOf_cons] at hs
  obtain ⟨s1,s2⟩:=standB_app hs
  rw [bitsN_length] at s2
  have hl:=standB_len s1 (by rw [bitsN_length]; omega)
  rw [bitsN_length] at hl
  have hr:=num_read hp (show c.toNat<2 ^ 8 from c.toNat_lt) s1
  have e:UInt8.ofNat c.toNat=c:=by simp
  rw [List.length_cons] at hm ⊢
  have ih:=bytes_read (most:=most) x (out ++ [c]) (p+8) hl (by rw [List.length_append]; simp; omega) s2
  simp only [bytesE,hr]
  unfold putE
  rw [if_neg (by omega),e]
  simp only
  rw [ih,List.append_assoc,List.singleton_append,show p+8+8 * x.length=p+8 * (x.length+1) by omega]
def storH (last n:Nat):List UInt8:=[UInt8.ofNat last,UInt8.ofNat (n % 256),UInt8.ofNat (n / 256),UInt8.ofNat (255 - n % 256),UInt8.ofNat (255 - n / 256)]
theorem bits16 {lo hi:Nat} (h1:lo<256) (h2:hi<256):bitsN 8 (UInt8.ofNat lo).toNat ++ bitsN 8 (UInt8.ofNat hi).toNat=bitsN 16 (lo+256 * hi):=by
 have e1:(UInt8.ofNat lo).toNat=lo:=by rw [UInt8.toNat_ofNat']; omega
 have e2:(UInt8.ofNat hi).toNat=hi:=by rw [UInt8.toNat_ofNat']; omega
 rw [e1,e2,show (16:Nat)=8+8 from rfl,bitsN_app 8 8]
 have h3:(lo+256 * hi) / 2 ^ 8=hi:=by omega
 have h4:bitsN 8 (lo+256 * hi)=bitsN 8 lo:=by
  apply List.ext_getElem?
  intro j
  by_cases hj:j<8
  ·rw [bitsN_get hj,bitsN_get hj]
   congr 1
   have:lo=(lo+256 * hi) % 2 ^ 8:=by omega
   rw [this,Nat.testBit_mod_two_pow,← this]
   simp [hj]
  ·rw [List.getElem?_eq_none (by rw [bitsN_length]; omega),List.getElem?_eq_none (by rw [bitsN_length]; omega)]
 rw [h3,h4]
theorem stored_read {B:List Bool} {most last:Nat} {x out:List UInt8} {p:Nat} (hl:last<2) (hn:x.length≤65535) (hm:out.length+x.length≤most) (hp:p % 8=0) (hs:standB B p (bitsOf (storH last x.length ++ x))) (K:Nat→List UInt8→RdE (List UInt8)) :
  rawK td B most K p out=if last=1 then .ok (out ++ x,p+40+8 * x.length) else K (p+40+8 * x.length) (out ++ x):=by
 rw [bitsOf_app] at hs
 obtain ⟨s1,s2⟩:=standB_app hs
 rw [bitsOf_length,show 8 * (storH last x.length).length=40 from rfl] at s2
 unfold storH at s1
 rw [bitsOf_cons] at s1
 obtain ⟨a1,a2⟩:=standB_app s1
 rw [bitsN_length,bitsOf_cons,bitsOf_cons,← List.append_assoc,bits16 (by omega) (by omega)] at a2
 obtain ⟨b1,b2⟩:=standB_app a2
 rw [bitsN_length,bitsOf_cons,bitsOf_cons,← List.append_assoc,bits16 (by omega) (by omega)] at b2
 obtain ⟨c1,-⟩:=standB_app b2
 have el:(UInt8.ofNat last).toNat=last:=by rw [UInt8.toNat_ofNat']; omega
 rw [el] at a1
 have h0:bitE B p=.ok (last,p+1):=by
  unfold bitE
  have:=a1 0 (by rw [bitsN_length]; omega)
  rw [Nat.add_zero,bitsN_get (by omega)] at this
  rw [this]
  simp only [toNat_testBit,Nat.mod_eq_of_lt hl]
 have l8:=standB_len a1 (by rw [bitsN_length]; omega)
 rw [bitsN_length] at l8
 have l24:=standB_len b1 (by rw [bitsN_length]; omega)
 rw [bitsN_length] at l24
 have l40:=standB_len c1 (by rw [bitsN_length]; omega)
 rw [bitsN_length] at l40
 have h1:numE B (p+1) 2=.ok (0,p+1+2):=by
  refine num_read (by omega) (by omega) fun j hj=>?_
  rw [bitsN_length] at hj
  have:=a1 (1+j) (by rw [bitsN_length]; omega)
  rw [← Nat.add_assoc] at this
  rw [this,bitsN_get (by omega),bitsN_get hj]
  congr 1
  rw [Nat.testBit_lt_two_pow (x:=last) (i:=1+j) (by rw [Nat.add_comm,Nat.pow_succ]; have:=Nat.pow_pos (n:=j) (by omega:0<2); omega),Nat.zero_testBit]
 have e8:(p+1+2+7) / 8 * 8=p+8:=by omega
 have h2:=num_read (by omega) (by omega) b1
 have h3:=num_read (by omega) (by omega) c1
 have h4:=bytes_read (most:=most) x out (p+40) (by omega) hm s2
 unfold rawK
 rw [h0]
 simp only
 rw [h1]
 simp only
 unfold blockE
 rw [if_pos (by trivial)]
 unfold storedE
 rw [e8,h2]
 simp only
 rw [h3]
 simp only
 rw [show x.length % 256+256 * (x.length / 256)=x.length by omega,if_pos (by omega),show p+8+16+16=p+40 by omega,h4]
def storB:Nat→List UInt8→List UInt8
 | 0,_=>[]
 | k+1,b=>if b.length≤65535 then storH 1 b.length ++ b else storH 0 65535 ++ (b.take 65535 ++ storB k (b.drop 65535))
theorem storB_raw {most:Nat} (more:List UInt8):∀ (k:Nat) (b A out:List UInt8) (f:Nat),b.length<k→out.length+b.length≤most→b.length<f →
  rawGo td (bitsOf (A ++ (storB k b ++ more))) most f (8 * A.length) out=.ok (out ++ b,8 * (A.length+(storB k b).length))
 | k+1,b,A,out,f,hk,hm,hf=>by
  obtain ⟨f,rfl⟩:∃ g,f=g+1:=⟨f - 1,by omega⟩
  show rawK td _ most (rawGo td _ most f) (8 * A.length) out=_
  unfold storB
  by_cases h:b.length≤65535
  ·rw [if_pos h]
   have hs:=stand_bytes A (storH 1 b.length ++ b) more
   rw [stored_read (by omega) h hm (by omega) hs,if_pos rfl,List.length_append,show (storH 1 b.length).length=5 from rfl,show 8 * A.length+40+8 * b.length=8 * (A.length+(5+b.length)) by omega]
  ·rw [if_neg h]
   have ht:(b.take 65535).length=65535:=by rw [List.length_take]; omega
   have hs:=stand_bytes A (storH 0 (b.take 65535).length ++ b.take 65535) (storB k (b.drop 65535) ++ more)
   have e:A ++ (storH 0 65535 ++ (b.take 65535 ++ storB k (b.drop 65535)) ++ more)=A ++ ((storH 0 (b.take 65535).length ++ b.take 65535) ++ (storB k (b.drop 65535) ++ more)):=by rw [ht]; simp only [List.append_assoc]
   rw [e,stored_read (by omega) (by omega) (by rw [ht]; omega) (by omega) hs,if_neg (by omega),ht]
   have ih:=storB_raw (most:=most) more k (b.drop 65535) (A ++ (storH 0 65535 ++ b.take 65535)) (out ++ b.take 65535) f (by rw [List.length_drop]; omega) (by rw [List.length_append,ht,List.length_drop]; omega) (by rw [List.length_drop]; omega)
   have hA:(A ++ (storH 0 65535 ++ b.take 65535)).length=A.length+(5+65535):=by rw [List.length_append,List.length_append,ht]; rfl
   rw [hA,List.append_assoc A,List.append_assoc (storH 0 65535),List.append_assoc out,List.take_append_drop] at ih
   rw [List.append_assoc (storH 0 65535),show 8 * A.length+40+8 * 65535=8 * (A.length+(5+65535)) by omega,ih,List.length_append,List.length_append,ht,show (storH 0 65535).length=5 from rfl]
   congr 2
   omega
def storW (b:List UInt8):List UInt8:=storB (b.length+1) b
theorem storB_len:∀ (k:Nat) (b:List UInt8),b.length<k→b.length<(storB k b).length
 | k+1,b,h=>by
  unfold storB
  by_cases h2:b.length≤65535
  ·rw [if_pos h2,List.length_append,show (storH 1 b.length).length=5 from rfl]; omega
  ·rw [if_neg h2,List.length_append,List.length_append,show (storH 0 65535).length=5 from rfl]
   have ih:=storB_len k (b.drop 65535) (by rw [List.length_drop]; omega)
   rw [List.length_drop] at ih
   rw [List.length_take]; omega
theorem storW_raw (b more:List UInt8) {most:Nat} (hm:b.length≤most):rawE td (storW b ++ more) most=.ok (b,(storW b).length):=by
 unfold rawE
 have hl:=storB_len (b.length+1) b (by omega)
 have h:=storB_raw (td:=td) (most:=most) more (b.length+1) b [] [] (8 * (storW b ++ more).length+1) (by omega) (by simpa using hm) (by rw [List.length_append]; unfold storW; omega)
 rw [List.nil_append,List.nil_append,List.length_nil,Nat.mul_zero,Nat.zero_add] at h
 unfold storW at h ⊢
 rw [h]
 show Except.ok (b,(8 * (storB (b.length+1) b).length+7) / 8)=_
 congr 2
 omega
end Go.Proofs.YtakolikdebfkeaaDoor
namespace Go.Proofs.YtakolikdebfkeaaDoor
variable {td : List Bool → Nat → RdE (List Nat × List Nat)}
def same3 (b:List UInt8) (p q:Nat):Bool:=decide (b.getD p 0=b.getD q 0) && decide (b.getD (p+1) 0=b.getD (q+1) 0) && decide (b.getD (p+2) 0=b.getD (q+2) 0)
def lastP (b:List UInt8) (q:Nat):Nat→Option Nat
 | 0=>none
 | k+1=>if same3 b k q=true then some k else lastP b q k
theorem lastP_lt {b:List UInt8} {q:Nat}:∀ {k p:Nat},lastP b q k=some p→p<k
 | k+1,p,h=>by
  unfold lastP at h
  split at h
  ·injection h with h; omega
  ·have:=lastP_lt h; omega
def mlen (b:List UInt8) (p q:Nat):Nat→Nat→Nat
 | 0,n=>n
 | f+1,n=>if n<258∧q+n<b.length∧b.getD (p+n) 0=b.getD (q+n) 0 then mlen b p q f (n+1) else n
theorem mlen_ok (b:List UInt8) (p q:Nat):∀ f n,n≤258→q+n≤b.length→(∀ j,j<n→b.getD (p+j) 0=b.getD (q+j) 0) →
  mlen b p q f n≤258∧q+mlen b p q f n≤b.length∧∀ j,j<mlen b p q f n→b.getD (p+j) 0=b.getD (q+j) 0
 | 0,n,h1,h2,h3=>⟨h1,h2,h3⟩
 | f+1,n,h1,h2,h3=>by
  unfold mlen
  split
  ·rename_i h
   refine mlen_ok b p q f (n+1) (by omega) (by omega) fun j hj=>?_
   rcases Nat.lt_or_ge j n with h4 | h4
   ·exact h3 j h4
   ·obtain rfl:j=n:=by omega
    exact h.2.2
  ·exact ⟨h1,h2,h3⟩
def tokS (b:List UInt8) (q:Nat):Tok :=
 if q+3≤b.length then match lastP b q q with
  | some p=>if q - p≤32768∧3≤mlen b p q 258 0 then .cpy (mlen b p q 258 0) (q - p) else .lit (b.getD q 0)
  | none=>.lit (b.getD q 0)
 else .lit (b.getD q 0)
def stepT:Tok→Nat
 | .lit _=>1
 | .cpy n _=>n
def toksF (b:List UInt8):Nat→Nat→List Tok
 | 0,_=>[]
 | f+1,q=>if q<b.length then tokS b q :: toksF b f (q+stepT (tokS b q)) else []
theorem copyL_take {b:List UInt8} {back:Nat} (h0:0<back):∀ (n q:Nat),back≤q→q+n≤b.length→(∀ j,j<n→b.getD (q - back+j) 0=b.getD (q+j) 0)→copyL back n (b.take q)=b.take (q+n)
 | 0,_,_,_,_=>rfl
 | n+1,q,hq,hl,h=>by
  have e1:(b.take q).length=q:=by rw [List.length_take]; omega
  have e2:(b.take q).getD (q - back) 0=b.getD q 0:=by
   rw [List.getD_eq_getElem?_getD,List.getElem?_take,if_pos (by omega),← List.getD_eq_getElem?_getD]
   have:=h 0 (by omega)
   simpa using this
  have e3:b.take q ++ [b.getD q 0]=b.take (q+1):=by
   rw [List.take_add_one,List.getD_eq_getElem?_getD,List.getElem?_eq_getElem (by omega:q<b.length)]; rfl
  rw [copyL,e1,e2,e3,copyL_take h0 n (q+1) (by omega) (by omega) fun j hj=>?_,show q+1+n=q+(n+1) by omega]
  have:=h (j+1) (by omega)
  rw [show q+1 - back+j=q - back+(j+1) by omega,show q+1+j=q+(j+1) by omega]
  exact this
theorem toks_ok (b:List UInt8):∀ (f q:Nat),q≤b.length→b.length - q≤f→okT (toksF b f q) (b.take q)∧runTk (toksF b f q) (b.take q)=b
 | 0,q,hq,hf=>by
  have:q=b.length:=by omega
  subst this
  exact ⟨trivial,List.take_length⟩
 | f+1,q,hq,hf=>by
  unfold toksF
  by_cases h:q<b.length
  ·rw [if_pos h]
   have lit:okT (.lit (b.getD q 0) :: toksF b f (q+1)) (b.take q)∧runTk (.lit (b.getD q 0) :: toksF b f (q+1)) (b.take q)=b:=by
    have e3:b.take q ++ [b.getD q 0]=b.take (q+1):=by
     rw [List.take_add_one,List.getD_eq_getElem?_getD,List.getElem?_eq_getElem h]; rfl
    show okT (toksF b f (q+1)) (b.take q ++ [b.getD q 0])∧runTk (toksF b f (q+1)) (b.take q ++ [b.getD q 0])=b
    rw [e3]
    exact toks_ok b f (q+1) (by omega) (by omega)
   unfold tokS
   split
   ·split
    ·rename_i p hp
     have hpq:=lastP_lt hp
     split
     ·rename_i hc
      obtain ⟨m1,m2,m3⟩:=mlen_ok b p q 258 0 (by omega) (by omega) (fun j hj=>absurd hj (by omega))
      generalize mlen b p q 258 0=n at *
      have e1:(b.take q).length=q:=by rw [List.length_take]; omega
      have e2:copyL (q - p) n (b.take q)=b.take (q+n):=copyL_take (by omega) n q (by omega) m2 fun j hj=>by
       rw [show q - (q - p)=p by omega]; exact m3 j hj
      obtain ⟨i1,i2⟩:=toks_ok b f (q+n) m2 (by omega)
      refine ⟨⟨hc.2,m1,by omega,hc.1,by rw [e1]; omega,?_⟩,?_⟩
      ·rw [e2]; exact i1
      ·show runTk (toksF b f (q+n)) (copyL (q - p) n (b.take q))=b
       rw [e2]; exact i2
     ·exact lit
    ·exact lit
   ·exact lit
  ·rw [if_neg h]
   have:q=b.length:=by omega
   subst this
   exact ⟨trivial,List.take_length⟩
def dflF (b:List UInt8):List UInt8:=packW (fixW (toksF b b.length 0))
def dflL (b:List UInt8):List UInt8:=if (dflF b).length≤(storW b).length then dflF b else storW b
theorem dflL_raw (b more:List UInt8) {most:Nat} (h:b.length≤most):rawE td (dflL b ++ more) most=.ok (b,(dflL b).length):=by
 unfold dflL
 split
 ·obtain ⟨h1,h2⟩:=toks_ok b b.length 0 (Nat.zero_le _) (by omega)
  have:=fixW_raw (td:=td) (toksF b b.length 0) (more:=more) (most:=most) h1 (by rw [show ([]:List UInt8)=b.take 0 from rfl,h2]; exact h)
  rw [show runTk (toksF b b.length 0) []=b from h2] at this
  exact this
 ·exact storW_raw b more h
end Go.Proofs.YtakolikdebfkeaaDoor
namespace Go.Proofs.YtakolikdebfkeaaDoor
def cutT {α:Type} (n p:Nat) (R' R:RdE α):Prop:=∀ v q,R=.ok (v,q)→p≤q∧((q≤n∧R' = .ok (v,q))∨R' = .error 3)
theorem bit_cut (B' X:List Bool) (p:Nat):cutT B'.length (p+1) (bitE B' p) (bitE (B' ++ X) p):=by
 intro v q h
 unfold bitE at h ⊢
 by_cases hp:p<B'.length
 ·rw [List.getElem?_append_left hp] at h
  split at h
  ·rename_i b hb
   injection h with h; injection h with h1 h2
   subst h1 h2
   exact ⟨Nat.le_refl _,Or.inl ⟨by omega,rfl⟩⟩
  ·cases h
 ·split at h
  ·injection h with h; injection h with h1 h2
   exact ⟨by omega,Or.inr (by rw [List.getElem?_eq_none (by omega)])⟩
  ·cases h
theorem numB_cut (B' X:List Bool) (p:Nat):∀ m,p+m≤B'.length→numB (B' ++ X) p m=numB B' p m
 | 0,_=>rfl
 | m+1,h=>by
  rw [numB,numB,numB_cut B' X p m (by omega)]
  simp only [List.getD_eq_getElem?_getD,List.getElem?_append_left (show p+m<B'.length by omega)]
theorem num_cut (B' X:List Bool) (p m:Nat):cutT B'.length (p+m) (numE B' p m) (numE (B' ++ X) p m):=by
 intro v q h
 unfold numE at h ⊢
 split at h
 ·injection h with h; injection h with h1 h2
  subst h1 h2
  refine ⟨Nat.le_refl _,?_⟩
  by_cases hp:p+m≤B'.length
  ·exact Or.inl ⟨hp,by rw [if_pos hp,numB_cut B' X p m hp]⟩
  ·exact Or.inr (by rw [if_neg hp])
 ·cases h
theorem signGo_cut (ls:List Nat) (B' X:List Bool):∀ k l n p,cutT B'.length (p+1) (signGo ls B' k l n p) (signGo ls (B' ++ X) k l n p)
 | 0,_,_,_=>fun v q h=>by cases h
 | k+1,l,n,p=>fun v q h=>by
  have hb:=bit_cut B' X p
  rw [signGo] at h ⊢
  cases hR:bitE (B' ++ X) p with
  | error e=>rw [hR] at h; cases h
  | ok w =>
   obtain ⟨b,p1⟩:=w
   rw [hR] at h
   obtain ⟨h1,⟨h2,h3⟩ | h3⟩:=hb b p1 hR
   ·rw [h3]
    simp only at h ⊢
    split at h
    ·injection h with h; injection h with h4 h5
     rename_i hc
     rw [if_pos hc,h4,← h5]
     exact ⟨h1,Or.inl ⟨h2,rfl⟩⟩
    ·rename_i hc
     rw [if_neg hc]
     split at h
     ·cases h
     ·rename_i hc2
      rw [if_neg hc2]
      obtain ⟨h4,h5⟩:=signGo_cut ls B' X k (l+1) (2 * n+b) p1 v q h
      exact ⟨by omega,h5⟩
   ·rw [h3]
    simp only at h
    refine ⟨?_,Or.inr rfl⟩
    split at h
    ·injection h with h; injection h with h4 h5; omega
    ·split at h
     ·cases h
     ·have:=(signGo_cut ls B' X k (l+1) (2 * n+b) p1 v q h).1
      omega
theorem sign_cut (ls:List Nat) (B' X:List Bool) (p:Nat):cutT B'.length (p+1) (signE ls B' p) (signE ls (B' ++ X) p):=signGo_cut ls B' X 15 0 0 p
theorem len_cut (B' X:List Bool) {p:Nat} (hp:p≤B'.length) (s:Nat):cutT B'.length p (lenE B' s p) (lenE (B' ++ X) s p):=by
 intro v q h
 unfold lenE at h ⊢
 split at h
 ·rename_i hc
  injection h with h; injection h with h1 h2
  subst h1 h2
  exact ⟨Nat.le_refl _,Or.inl ⟨hp,if_pos hc⟩⟩
 ·rename_i hc
  rw [if_neg hc]
  split at h
  ·rename_i hc
   injection h with h; injection h with h1 h2
   subst h1 h2
   exact ⟨Nat.le_refl _,Or.inl ⟨hp,if_pos hc⟩⟩
  ·rename_i hc
   rw [if_neg hc]
   split at h
   ·cases h
   ·rename_i hc
    rw [if_neg hc]
    have hb:=num_cut B' X p ((s - 257) / 4 - 1)
    cases hR:numE (B' ++ X) p ((s - 257) / 4 - 1) with
    | error e=>rw [hR] at h; cases h
    | ok w =>
     obtain ⟨x,p1⟩:=w
     rw [hR] at h
     simp only at h
     injection h with h; injection h with h4 h5
     obtain ⟨h1,⟨h2,h3⟩ | h3⟩:=hb x p1 hR
     ·rw [h3]; subst h4 h5
      exact ⟨by omega,Or.inl ⟨h2,rfl⟩⟩
     ·rw [h3]; exact ⟨by omega,Or.inr rfl⟩
theorem dist_cut (B' X:List Bool) {p:Nat} (hp:p≤B'.length) (s:Nat):cutT B'.length p (distE B' s p) (distE (B' ++ X) s p):=by
 intro v q h
 unfold distE at h ⊢
 split at h
 ·rename_i hc
  injection h with h; injection h with h1 h2
  subst h1 h2
  exact ⟨Nat.le_refl _,Or.inl ⟨hp,if_pos hc⟩⟩
 ·rename_i hc
  rw [if_neg hc]
  split at h
  ·cases h
  ·rename_i hc
   rw [if_neg hc]
   have hb:=num_cut B' X p (s / 2 - 1)
   cases hR:numE (B' ++ X) p (s / 2 - 1) with
   | error e=>rw [hR] at h; cases h
   | ok w =>
    obtain ⟨x,p1⟩:=w
    rw [hR] at h
    simp only at h
    injection h with h; injection h with h4 h5
    obtain ⟨h1,⟨h2,h3⟩ | h3⟩:=hb x p1 hR
    ·rw [h3]; subst h4 h5
     exact ⟨by omega,Or.inl ⟨h2,rfl⟩⟩
    ·rw [h3]; exact ⟨by omega,Or.inr rfl⟩
theorem num_mono {B:List Bool} {p m v q:Nat} (h:numE B p m=.ok (v,q)):p≤q:=by
 unfold numE at h
 split at h
 ·injection h with h; injection h with h1 h2; omega
 ·cases h
theorem len_mono {B:List Bool} {s p v q:Nat} (h:lenE B s p=.ok (v,q)):p≤q:=by
 unfold lenE at h
 (repeat' split at h)
 ·injection h with h; injection h with h1 h2; omega
 ·injection h with h; injection h with h1 h2; omega
 ·cases h
 ·cases h
 ·rename_i hn
  have:=num_mono hn
  injection h with h; injection h with h1 h2; omega
theorem dist_mono {B:List Bool} {s p v q:Nat} (h:distE B s p=.ok (v,q)):p≤q:=by
 unfold distE at h
 (repeat' split at h)
 ·injection h with h; injection h with h1 h2; omega
 ·cases h
 ·cases h
 ·rename_i hn
  have:=num_mono hn
  injection h with h; injection h with h1 h2; omega
theorem cutT.trans {α:Type} {n p q:Nat} {R' R:RdE α} (h:cutT n q R' R) (hq:p≤q):cutT n p R' R:=fun v r hr=>⟨Nat.le_trans hq (h v r hr).1,(h v r hr).2⟩
theorem signK_cut (ls ds:List Nat) (B' X:List Bool) (most:Nat) (K' K:Nat→List UInt8→RdE (List UInt8)) (p:Nat) (out:List UInt8)
  (hK:∀ p1 o,p+1≤p1→p1≤B'.length→cutT B'.length p1 (K' p1 o) (K p1 o)) (hM:∀ p1 o v q,K p1 o=.ok (v,q)→p1≤q) :
  cutT B'.length (p+1) (signK ls ds B' most K' p out) (signK ls ds (B' ++ X) most K p out):=by
 intro v q h
 unfold signK at h ⊢
 cases hR:signE ls (B' ++ X) p with
 | error e=>rw [hR] at h; cases h
 | ok w =>
  obtain ⟨s,p1⟩:=w
  rw [hR] at h
  simp only at h
  obtain ⟨h1,h3⟩:=sign_cut ls B' X p s p1 hR
  have hq:p1≤q∧(p1≤B'.length→signE ls B' p=.ok (s,p1)→((q≤B'.length∧signK ls ds B' most K' p out=.ok (v,q))∨signK ls ds B' most K' p out=.error 3)):=by
   by_cases hs:s<256
   ·rw [if_pos hs] at h
    cases hp:putE most out (UInt8.ofNat s) with
    | error e=>rw [hp] at h; cases h
    | ok o =>
     rw [hp] at h
     refine ⟨hM _ _ _ _ h,fun hl he=>?_⟩
     unfold signK
     rw [he]; simp only; rw [if_pos hs,hp]
     exact (hK p1 o h1 hl v q h).2
   ·rw [if_neg hs] at h
    by_cases hs2:s=256
    ·rw [if_pos hs2] at h
     injection h with h; injection h with h4 h5
     subst h4 h5
     refine ⟨Nat.le_refl _,fun hl he=>Or.inl ⟨hl,?_⟩⟩
     unfold signK
     rw [he]; simp only; rw [if_neg hs,if_pos hs2]
    ·rw [if_neg hs2] at h
     cases hn:lenE (B' ++ X) s p1 with
     | error e=>rw [hn] at h; cases h
     | ok w =>
      obtain ⟨n,p2⟩:=w
      rw [hn] at h
      simp only at h
      by_cases ht:totL ds 15=0
      ·rw [if_pos ht] at h; cases h
      ·rw [if_neg ht] at h
       cases hd:signE ds (B' ++ X) p2 with
       | error e=>rw [hd] at h; cases h
       | ok w =>
        obtain ⟨d,p3⟩:=w
        rw [hd] at h
        simp only at h
        obtain ⟨g1,g3⟩:=sign_cut ds B' X p2 d p3 hd
        cases hb:distE (B' ++ X) d p3 with
        | error e=>rw [hb] at h; cases h
        | ok w =>
         obtain ⟨back,p4⟩:=w
         rw [hb] at h
         simp only at h
         by_cases ho:out.length<back
         ·rw [if_pos ho] at h; cases h
         ·rw [if_neg ho] at h
          cases hc:copyE most back n out with
          | error e=>rw [hc] at h; cases h
          | ok o =>
           rw [hc] at h
           simp only at h
           have hle:=hM _ _ _ _ h
           have hl1:=len_mono hn
           have hl2:=dist_mono hb
           refine ⟨by omega,fun hl he=>?_⟩
           unfold signK
           rw [he]; simp only; rw [if_neg hs,if_neg hs2]
           obtain ⟨-,⟨a1,a2⟩ | a2⟩:=len_cut B' X hl s n p2 hn
           ·rw [a2]; simp only; rw [if_neg ht]
            rcases g3 with ⟨b1,b2⟩ | b2
            ·rw [b2]; simp only
             obtain ⟨-,⟨c1,c2⟩ | c2⟩:=dist_cut B' X b1 d back p4 hb
             ·rw [c2]; simp only; rw [if_neg ho,hc]
              exact (hK p4 o (by omega) c1 v q h).2
             ·rw [c2]; exact Or.inr rfl
            ·rw [b2]; exact Or.inr rfl
           ·rw [a2]; exact Or.inr rfl
  refine ⟨by omega,?_⟩
  rcases h3 with ⟨h3,h4⟩ | h4
  ·have:=hq.2 h3 h4
   unfold signK at this
   exact this
  ·rw [h4]; exact Or.inr rfl
theorem signK_mono {ls ds:List Nat} {B:List Bool} {most:Nat} {K:Nat→List UInt8→RdE (List UInt8)} {p:Nat} {out v:List UInt8} {q:Nat} (hM:∀ p1 o v q,K p1 o=.ok (v,q)→p1≤q) (h:signK ls ds B most K p out=.ok (v,q)):p+1≤q :=
 (signK_cut ls ds B [] most (fun _ _=>.error 3) K p out (fun _ _ _ _ _ _ h=>⟨hM _ _ _ _ h,Or.inr rfl⟩) hM v q (by rw [List.append_nil]; exact h)).1
theorem signs_mono {ls ds:List Nat} {B:List Bool} {most:Nat}:∀ (k p:Nat) (out v:List UInt8) (q:Nat),signsE ls ds B most k p out=.ok (v,q)→p≤q
 | 0,_,_,_,_,h=>by cases h
 | k+1,p,out,v,q,h=>by
  have:=signK_mono (signs_mono k) h
  omega
theorem signs_cut (ls ds:List Nat) (B' X:List Bool) (most:Nat):∀ (k k' p:Nat) (out:List UInt8),p≤B'.length→B'.length - p<k' → cutT B'.length p (signsE ls ds B' most k' p out) (signsE ls ds (B' ++ X) most k p out)
 | 0,_,_,_,_,_=>fun v q h=>by cases h
 | k+1,0,_,_,_,h=>by omega
 | k+1,k' + 1,p,out,h1,h2 =>
  (signK_cut ls ds B' X most (signsE ls ds B' most k') (signsE ls ds (B' ++ X) most k) p out (fun p1 o g1 g2=>signs_cut ls ds B' X most k k' p1 o g2 (by omega)) (signs_mono k)).trans (by omega)
theorem bytes_mono {B:List Bool} {most:Nat}:∀ {m p:Nat} {out v:List UInt8} {q:Nat},bytesE B most m p out=.ok (v,q)→p≤q
 | 0,p,out,v,q,h=>by injection h with h; injection h with h1 h2; omega
 | m+1,p,out,v,q,h=>by
  rw [bytesE] at h
  simp only at h
  cases hR:numE B p 8 with
  | error e=>rw [hR] at h; cases h
  | ok w =>
   obtain ⟨c,p1⟩:=w
   rw [hR] at h
   simp only at h
   cases ho:putE most out (UInt8.ofNat c) with
   | error e=>rw [ho] at h; cases h
   | ok o =>
    rw [ho] at h
    simp only at h
    have:=bytes_mono h
    have:=num_mono hR
    omega
theorem bytes_cut (B' X:List Bool) (most:Nat):∀ (m p:Nat) (out:List UInt8),p≤B'.length→cutT B'.length p (bytesE B' most m p out) (bytesE (B' ++ X) most m p out)
 | 0,p,out,hp=>fun v q h=>by
  injection h with h; injection h with h1 h2
  subst h1 h2
  exact ⟨Nat.le_refl _,Or.inl ⟨hp,rfl⟩⟩
 | m+1,p,out,hp=>fun v q h=>by
  have hb:=num_cut B' X p 8
  rw [bytesE] at h ⊢
  simp only at h ⊢
  cases hR:numE (B' ++ X) p 8 with
  | error e=>rw [hR] at h; cases h
  | ok w =>
   obtain ⟨c,p1⟩:=w
   rw [hR] at h
   simp only at h
   obtain ⟨h1,h3⟩:=hb c p1 hR
   cases ho:putE most out (UInt8.ofNat c) with
   | error e=>rw [ho] at h; cases h
   | ok o =>
    rw [ho] at h
    simp only at h
    rcases h3 with ⟨h2,h3⟩ | h3
    ·rw [h3]; simp only; rw [ho]
     obtain ⟨h4,h5⟩:=bytes_cut B' X most m p1 o h2 v q h
     exact ⟨by omega,h5⟩
    ·rw [h3]
     exact ⟨Nat.le_trans (by omega) (bytes_mono h),Or.inr rfl⟩
theorem stored_cut (B' X:List Bool) (most:Nat) {p:Nat} (out:List UInt8) (h8:B'.length % 8=0) (hp:p≤B'.length):cutT B'.length p (storedE B' most p out) (storedE (B' ++ X) most p out):=by
 intro v q h
 unfold storedE at h ⊢
 cases hR:numE (B' ++ X) ((p+7) / 8 * 8) 16 with
 | error e=>rw [hR] at h; cases h
 | ok w =>
  obtain ⟨n,p1⟩:=w
  rw [hR] at h
  simp only at h
  obtain ⟨h1,h3⟩:=num_cut B' X ((p+7) / 8 * 8) 16 n p1 hR
  cases hR2:numE (B' ++ X) p1 16 with
  | error e=>rw [hR2] at h; cases h
  | ok w =>
   obtain ⟨m,p2⟩:=w
   rw [hR2] at h
   simp only at h
   obtain ⟨g1,g3⟩:=num_cut B' X p1 16 m p2 hR2
   split at h
   ·rename_i hm
    have hmo:=bytes_mono h
    refine ⟨by omega,?_⟩
    rcases h3 with ⟨h2,h3⟩ | h3
    ·rw [h3]; simp only
     rcases g3 with ⟨g2,g3⟩ | g3
     ·rw [g3]; simp only; rw [if_pos hm]
      exact (bytes_cut B' X most n p2 out g2 v q h).2
     ·rw [g3]; exact Or.inr rfl
    ·rw [h3]; exact Or.inr rfl
   ·cases h
theorem block_cut {td:List Bool→Nat→RdE (List Nat × List Nat)} (B' X:List Bool) (most ty:Nat) {p:Nat} (out:List UInt8) (h8:B'.length % 8=0) (hp:p≤B'.length) (htd:cutT B'.length p (td B' p) (td (B' ++ X) p)) :
  cutT B'.length p (blockE td B' most ty p out) (blockE td (B' ++ X) most ty p out):=by
 intro v q h
 unfold blockE at h ⊢
 split at h
 ·rename_i hc
  rw [if_pos hc]
  exact stored_cut B' X most out h8 hp v q h
 ·rename_i hc
  rw [if_neg hc]
  split at h
  ·rename_i hc
   rw [if_pos hc]
   exact signs_cut fixL fixD B' X most _ _ p out hp (by omega) v q h
  ·rename_i hc
   rw [if_neg hc]
   split at h
   ·rename_i hc
    rw [if_pos hc]
    cases hR:td (B' ++ X) p with
    | error e=>rw [hR] at h; cases h
    | ok w =>
     obtain ⟨c,p1⟩:=w
     rw [hR] at h
     simp only at h
     have hmo:=signs_mono _ _ _ _ _ h
     obtain ⟨h1,h3⟩:=htd c p1 hR
     refine ⟨by omega,?_⟩
     rcases h3 with ⟨h2,h3⟩ | h3
     ·rw [h3]
      exact (signs_cut c.1 c.2 B' X most _ _ p1 out h2 (by omega) v q h).2
     ·rw [h3]; exact Or.inr rfl
   ·cases h
theorem rawGo_cut {td:List Bool→Nat→RdE (List Nat × List Nat)} (B' X:List Bool) (most:Nat) (h8:B'.length % 8=0) (htd:∀ p,p≤B'.length→cutT B'.length p (td B' p) (td (B' ++ X) p)):∀ (k k' p:Nat) (out:List UInt8),p≤B'.length→B'.length - p<k' →
  ∀ v q,rawGo td (B' ++ X) most k p out=.ok (v,q)→(q≤B'.length∧rawGo td B' most k' p out=.ok (v,q))∨rawGo td B' most k' p out=.error 3
 | 0,_,_,_,_,_=>fun v q h=>by cases h
 | k+1,0,_,_,_,h=>by omega
 | k+1,k' + 1,p,out,hp,hk=>fun v q h=>by
  rw [rawGo] at h ⊢
  unfold rawK at h ⊢
  cases hR:bitE (B' ++ X) p with
  | error e=>rw [hR] at h; cases h
  | ok w =>
   obtain ⟨last,p1⟩:=w
   rw [hR] at h
   simp only at h
   obtain ⟨h1,⟨h2,h3⟩ | h3⟩:=bit_cut B' X p last p1 hR
   ·rw [h3]; simp only
    cases hN:numE (B' ++ X) p1 2 with
    | error e=>rw [hN] at h; cases h
    | ok w =>
     obtain ⟨ty,p2⟩:=w
     rw [hN] at h
     simp only at h
     obtain ⟨g1,⟨g2,g3⟩ | g3⟩:=num_cut B' X p1 2 ty p2 hN
     ·rw [g3]; simp only
      cases hO:blockE td (B' ++ X) most ty p2 out with
      | error e=>rw [hO] at h; cases h
      | ok w =>
       obtain ⟨o,p3⟩:=w
       rw [hO] at h
       simp only at h
       obtain ⟨i1,⟨i2,i3⟩ | i3⟩:=block_cut B' X most ty out h8 g2 (htd p2 g2) o p3 hO
       ·rw [i3]; simp only
        split at h
        ·rename_i hl
         injection h with h; injection h with h4 h5
         subst h4 h5
         rw [if_pos hl]
         exact Or.inl ⟨i2,rfl⟩
        ·rename_i hl
         rw [if_neg hl]
         exact rawGo_cut B' X most h8 htd k k' p3 o i2 (by omega) v q h
       ·rw [i3]; exact Or.inr rfl
     ·rw [g3]; exact Or.inr rfl
   ·rw [h3]; exact Or.inr rfl
theorem raw_cut {td:List Bool→Nat→RdE (List Nat × List Nat)} (b x:List UInt8) (most:Nat) (htd:∀ p,p≤(bitsOf b).length→cutT (bitsOf b).length p (td (bitsOf b) p) (td (bitsOf b ++ bitsOf x) p)) {o:List UInt8} {n:Nat} (h:rawE td (b ++ x) most=.ok (o,n)) :
  (n≤b.length∧rawE td b most=.ok (o,n))∨rawE td b most=.error 3:=by
 unfold rawE at h ⊢
 rw [bitsOf_app] at h
 have hl:=bitsOf_length b
 cases hR:rawGo td (bitsOf b ++ bitsOf x) most (8 * (b ++ x).length+1) 0 [] with
 | error e=>rw [hR] at h; cases h
 | ok w =>
  obtain ⟨o',q⟩:=w
  rw [hR] at h
  injection h with h; injection h with h1 h2
  subst h1 h2
  rcases rawGo_cut (bitsOf b) (bitsOf x) most (by omega) htd _ (8 * b.length+1) 0 [] (by omega) (by omega) o' q hR with ⟨h3,h4⟩ | h4
  ·rw [h4]; exact Or.inl ⟨by omega,rfl⟩
  ·rw [h4]; exact Or.inr rfl
end Go.Proofs.YtakolikdebfkeaaDoor
namespace Go.Proofs.YtakolikdebfkeaaDoor
variable {td : List Bool → Nat → RdE (List Nat × List Nat)}
def adlX:List UInt8→Nat→Nat→Nat × Nat
 | [],x,y=>(x,y)
 | c :: r,x,y=>adlX r ((x+c.toNat) % 65521) ((y+(x+c.toNat) % 65521) % 65521)
theorem adlX_lt:∀ (b:List UInt8) (x y:Nat),x<65521→y<65521→(adlX b x y).1<65521∧(adlX b x y).2<65521
 | [],_,_,h1,h2=>⟨h1,h2⟩
 | c :: r,x,y,_,_=>adlX_lt r _ _ (Nat.mod_lt _ (by omega)) (Nat.mod_lt _ (by omega))
def adlN (b:List UInt8):Nat:=(adlX b 1 0).2 * 65536+(adlX b 1 0).1
theorem adlN_lt (b:List UInt8):adlN b<4294967296:=by
 have:=adlX_lt b 1 0 (by omega) (by omega)
 unfold adlN; omega
def tail4 (n:Nat):List UInt8:=[UInt8.ofNat (n / 16777216),UInt8.ofNat (n / 65536 % 256),UInt8.ofNat (n / 256 % 256),UInt8.ofNat (n % 256)]
def zwrap (b:List UInt8):List UInt8:=[120,156] ++ dflL b ++ tail4 (adlN b)
theorem zwrap_len (b:List UInt8):(zwrap b).length=(dflL b).length+6:=by
 unfold zwrap; rw [List.length_append,List.length_append]; simp [tail4]; omega
def headBad (x y:Nat):Bool:=decide (¬ x % 16=8) || decide (7<x / 16) || decide (y / 32 % 2=1) || decide (¬ (x * 256+y) % 31=0)
theorem head_ok (r:List UInt8):headBad ((120 :: 156 :: r:List UInt8).getD 0 0).toNat ((120 :: 156 :: r:List UInt8).getD 1 0).toNat=false:=show headBad 120 156=false by decide
def zopenE (td:List Bool→Nat→RdE (List Nat × List Nat)) (b:List UInt8) (most:Nat):RdE (List UInt8) :=
 if b.length<2 then .error 3
 else if headBad (b.getD 0 0).toNat (b.getD 1 0).toNat=true then .error 4
 else match rawE td (b.drop 2) most with
  | .error e=>.error e
  | .ok (x,n)=>if (b.drop (2+n)).length<4 then .error 3 else if tail4 (adlN x)=(b.drop (2+n)).take 4 then .ok (x,n+6) else .error 5
theorem zopen_wrap (b more:List UInt8) {most:Nat} (h:b.length≤most):zopenE td (zwrap b ++ more) most=.ok (b,(zwrap b).length):=by
 have e1:zwrap b ++ more=120 :: 156 :: (dflL b ++ (tail4 (adlN b) ++ more)):=by unfold zwrap; simp [List.append_assoc]
 have e2:(120 :: 156 :: (dflL b ++ (tail4 (adlN b) ++ more)):List UInt8).drop (2+(dflL b).length)=tail4 (adlN b) ++ more:=by
  rw [Nat.add_comm]
  show (dflL b ++ (tail4 (adlN b) ++ more)).drop (dflL b).length=_
  rw [List.drop_append_of_le_length (Nat.le_refl _),List.drop_length,List.nil_append]
 rw [e1,zopenE,if_neg (by simp),if_neg (Bool.eq_false_iff.1 (head_ok _))]
 have:=dflL_raw (td:=td) b (tail4 (adlN b) ++ more) h
 rw [show (120 :: 156 :: (dflL b ++ (tail4 (adlN b) ++ more)):List UInt8).drop 2=dflL b ++ (tail4 (adlN b) ++ more) from rfl,this]
 simp only
 rw [e2,if_neg (by simp [tail4]),if_pos (by simp [tail4]),zwrap_len]
theorem zopen_cut (b:List UInt8) {most n:Nat} (h:b.length≤most) (hn:n<(zwrap b).length)
  (htd:∀ (c x:List UInt8) p,cutT (bitsOf c).length p (td (bitsOf c) p) (td (bitsOf c ++ bitsOf x) p)):zopenE td ((zwrap b).take n) most=.error 3:=by
 have e1:zwrap b=120 :: 156 :: (dflL b ++ tail4 (adlN b)):=by unfold zwrap; simp [List.append_assoc]
 rw [zwrap_len] at hn
 rw [e1]
 rcases n with _ | _ | n
 ·rfl
 ·rfl
 ·rw [show (120 :: 156 :: (dflL b ++ tail4 (adlN b)):List UInt8).take (n+1+1)=120 :: 156 :: (dflL b ++ tail4 (adlN b)).take n from rfl]
  rw [zopenE,if_neg (by simp),if_neg (Bool.eq_false_iff.1 (head_ok _))]
  rw [show (120 :: 156 :: (dflL b ++ tail4 (adlN b)).take n:List UInt8).drop 2=(dflL b ++ tail4 (adlN b)).take n from rfl]
  have hw:=dflL_raw (td:=td) b (tail4 (adlN b)) h
  have hl:(dflL b ++ tail4 (adlN b)).length=(dflL b).length+4:=by simp [tail4]
  have hl2:((dflL b ++ tail4 (adlN b)).take n).length=n:=by rw [List.length_take]; omega
  rw [← List.take_append_drop n (dflL b ++ tail4 (adlN b))] at hw
  rcases raw_cut _ _ most (fun p _=>htd _ _ p) hw with ⟨h1,h2⟩ | h2
  ·rw [h2]
   simp only
   rw [if_pos ?_]
   rw [Nat.add_comm]
   show (((dflL b ++ tail4 (adlN b)).take n).drop (dflL b).length).length<4
   rw [List.length_drop]; omega
  ·rw [h2]
theorem no_cut (c x:List UInt8) (p e:Nat):cutT (α:=List Nat × List Nat) (bitsOf c).length p (.error e) (.error e):=fun _ _ h=>by cases h
end Go.Proofs.YtakolikdebfkeaaDoor
namespace Go.Proofs.YtakolikdebfkeaaDoor
open Go.Shelf
def Tryd.lays169_ren:Go.Shelf.Ren:=⟨fun | 169=>48 | n=>n,fun | 70=>87 | 9=>9 | 0=>0 | 72=>89 | 37=>27 | 127=>113 | 3=>3 | 5=>5 | n=>n,fun | n=>n⟩
theorem Tryd.lays169:Go.Proofs.Lays.n169 Tryd.prog Tryd.lays169_ren:={
 mixed:=by kernel_rfl
 f169:=Tryd.func48.trans (congrArg some (by kernel_rfl))
 t0:=Tryd.underlying0
 a0:=Tryd.isAgg0
 z0:=Tryd.sizeOf0
 v0:=Tryd.zeroValue0
 t3:=Tryd.underlying3
 a3:=Tryd.isAgg3
 z3:=Tryd.sizeOf3
 v3:=Tryd.zeroValue3
 t9:=Tryd.underlying9
 a9:=Tryd.isAgg9
 z9:=Tryd.sizeOf9
 v9:=Tryd.zeroValue9
 t37:=Tryd.underlying27
 a37:=Tryd.isAgg27
 z37:=Tryd.sizeOf27
 v37:=Tryd.zeroValue27
 t70:=Tryd.underlying87
 a70:=Tryd.isAgg87
 z70:=Tryd.sizeOf87
 v70:=Tryd.zeroValue87
 t72:=Tryd.underlying89
 a72:=Tryd.isAgg89
 z72:=Tryd.sizeOf89
 v72:=Tryd.zeroValue89
 t127:=Tryd.underlying113
 a127:=Tryd.isAgg113
 z127:=Tryd.sizeOf113
 v127:=Tryd.zeroValue113 }
theorem Tryd.Builder_Extra_169:Builder.Extra Tryd.prog Tryd.lays169_ren:={
 sizeBuilder:=by kernel_rfl
 liesBuilder:=by kernel_rfl
 t5:=Tryd.underlying5
 a5:=Tryd.isAgg5
 z5:=Tryd.sizeOf5
 v5:=Tryd.zeroValue5
 infoByte:=by kernel_rfl
 cellsByte:=by kernel_rfl
 sizeByte:=by kernel_rfl
 neB5:=by decide }
open Go.RowKit in
theorem Tryd.Builder_String_any (B b:Nat) (l:List UInt8) (w:World) (h:Lib.IsBuilder 89 5 B b (Lib.byteCells l) w) (hBw:B≤w.heap.size) :
  Calls Tryd.prog 48 #[.pointer (some ⟨b,0,none⟩)] w fun e w' => e=.returned (.string ⟨l.toArray⟩)∧Below B w w' := Any.Builder_String_any Tryd.lays169 Tryd.Builder_Extra_169 B b l w h hBw
def Tryd.laysM171_ren:Go.Shelf.Ren:=⟨fun | 171=>53 | 243=>83 | 246=>109 | 283=>119 | 284=>120 | 285=>121 | 286=>122 | 129=>125 | 317=>129 | 318=>130 | 319=>131 | 320=>132 | 337=>133 | 338=>134 | n=>n,fun | 3=>3 | 9=>9 | 2=>2 | 4=>4 | 171=>180 | 0=>0 | 53=>39 | 37=>27 | 5=>5 | 173=>183 | 212=>193 | 51=>65 | 20=>20 | 213=>194 | 46=>93 | 232=>197 | 233=>198 | n=>n,fun | 17=>3 | 18=>4 | 19=>5 | n=>n⟩
theorem Tryd.laysM171:Go.Proofs.LaysM.n171 Tryd.prog Tryd.laysM171_ren:={
 mixed:=by kernel_rfl
 f129:=Tryd.func125.trans (congrArg some (by kernel_rfl))
 f171:=Tryd.func53.trans (congrArg some (by kernel_rfl))
 f243:=Tryd.func83.trans (congrArg some (by kernel_rfl))
 f246:=Tryd.func109.trans (congrArg some (by kernel_rfl))
 f283:=Tryd.func119.trans (congrArg some (by kernel_rfl))
 f284:=Tryd.func120.trans (congrArg some (by kernel_rfl))
 f285:=Tryd.func121.trans (congrArg some (by kernel_rfl))
 f286:=Tryd.func122.trans (congrArg some (by kernel_rfl))
 f317:=Tryd.func129.trans (congrArg some (by kernel_rfl))
 f318:=Tryd.func130.trans (congrArg some (by kernel_rfl))
 f319:=Tryd.func131.trans (congrArg some (by kernel_rfl))
 f320:=Tryd.func132.trans (congrArg some (by kernel_rfl))
 f337:=Tryd.func133.trans (congrArg some (by kernel_rfl))
 f338:=Tryd.func134.trans (congrArg some (by kernel_rfl))
 t0:=Tryd.underlying0
 a0:=Tryd.isAgg0
 z0:=Tryd.sizeOf0
 v0:=Tryd.zeroValue0
 t2:=Tryd.underlying2
 a2:=Tryd.isAgg2
 z2:=Tryd.sizeOf2
 v2:=Tryd.zeroValue2
 t3:=Tryd.underlying3
 a3:=Tryd.isAgg3
 z3:=Tryd.sizeOf3
 v3:=Tryd.zeroValue3
 t4:=Tryd.underlying4
 a4:=Tryd.isAgg4
 z4:=Tryd.sizeOf4
 v4:=Tryd.zeroValue4
 t5:=Tryd.underlying5
 a5:=Tryd.isAgg5
 z5:=Tryd.sizeOf5
 v5:=Tryd.zeroValue5
 t9:=Tryd.underlying9
 a9:=Tryd.isAgg9
 z9:=Tryd.sizeOf9
 v9:=Tryd.zeroValue9
 t20:=Tryd.underlying20
 a20:=Tryd.isAgg20
 z20:=Tryd.sizeOf20
 v20:=Tryd.zeroValue20
 t37:=Tryd.underlying27
 a37:=Tryd.isAgg27
 z37:=Tryd.sizeOf27
 v37:=Tryd.zeroValue27
 t46:=Tryd.underlying93
 a46:=Tryd.isAgg93
 z46:=Tryd.sizeOf93
 v46:=Tryd.zeroValue93
 t51:=Tryd.underlying65
 a51:=Tryd.isAgg65
 z51:=Tryd.sizeOf65
 v51:=Tryd.zeroValue65
 t53:=Tryd.underlying39
 a53:=Tryd.isAgg39
 z53:=Tryd.sizeOf39
 v53:=Tryd.zeroValue39
 t171:=Tryd.underlying180
 a171:=Tryd.isAgg180
 z171:=Tryd.sizeOf180
 v171:=Tryd.zeroValue180
 t173:=Tryd.underlying183
 a173:=Tryd.isAgg183
 z173:=Tryd.sizeOf183
 v173:=Tryd.zeroValue183
 t212:=Tryd.underlying193
 a212:=Tryd.isAgg193
 z212:=Tryd.sizeOf193
 v212:=Tryd.zeroValue193
 t213:=Tryd.underlying194
 a213:=Tryd.isAgg194
 z213:=Tryd.sizeOf194
 t232:=Tryd.underlying197
 a232:=Tryd.isAgg197
 z232:=Tryd.sizeOf197
 v232:=Tryd.zeroValue197
 t233:=Tryd.underlying198
 a233:=Tryd.isAgg198
 z233:=Tryd.sizeOf198
 v233:=Tryd.zeroValue198
 g17:=by kernel_rfl
 g18:=by kernel_rfl
 g19:=by kernel_rfl
 i0:=by kernel_rfl
 i2:=by kernel_rfl
 i3:=by kernel_rfl
 i4:=by kernel_rfl
 i5:=by kernel_rfl
 i9:=by kernel_rfl
 i20:=by kernel_rfl
 i37:=by kernel_rfl
 i46:=by kernel_rfl
 i51:=by kernel_rfl
 i53:=by kernel_rfl
 i171:=by kernel_rfl
 i173:=by kernel_rfl
 i212:=by kernel_rfl
 i232:=by kernel_rfl
 i233:=by kernel_rfl
 m17:=by kernel_rfl
 m18:=by kernel_rfl
 m19:=by kernel_rfl }
open Go.RowKit Go.Sort Go.Lib in
theorem Tryd.strconv_Itoa (n : Int) (h0 : -9223372036854775808 ≤ n) (h1 : n ≤ 9223372036854775807) (w : World) (htab : Lib.TabIs Tryd.prog w "internal/strconv.uint64pow10" .u64 Lib.pow10Tab) :
  Calls Tryd.prog 53 #[.int .i64 n] w fun e w' => e = .returned (.string ⟨(Lib.itoa n).toArray⟩) ∧ ∃ k os, w' = grow (w.drewN k) os := Any.strconv_Itoa Tryd.laysM171 n h0 h1 w htab
def Tryd.laysC172_ren:Go.Shelf.Ren:=⟨fun | 172=>51 | 244=>81 | 245=>82 | 247=>104 | 279=>105 | 280=>106 | 281=>107 | 282=>108 | 287=>116 | 316=>117 | 171=>53 | 205=>118 | 321=>127 | 322=>128 | 243=>83 | 246=>109 | 283=>119 | 284=>120 | 285=>121 | 286=>122 | 129=>125 | 317=>129 | 318=>130 | 319=>131 | 320=>132 | 337=>133 | 338=>134 | n=>n,fun | 9=>9 | 3=>3 | 75=>91 | 76=>96 | 4=>4 | 5=>5 | 167=>162 | 37=>27 | 0=>0 | 85=>163 | 2=>2 | 168=>165 | 53=>39 | 175=>174 | 46=>93 | 210=>178 | 127=>113 | 145=>191 | 143=>189 | 21=>21 | 171=>180 | 173=>183 | 212=>193 | 51=>65 | 20=>20 | 213=>194 | 232=>197 | 233=>198 | 80=>94 | n=>n,fun | 15=>1 | 16=>2 | 17=>3 | 18=>4 | 19=>5 | n=>n⟩
theorem Tryd.laysC172:Go.Proofs.LaysC.n172 Tryd.prog Tryd.laysC172_ren:={
 mixed:=by kernel_rfl
 f129:=Tryd.func125.trans (congrArg some (by kernel_rfl))
 f171:=Tryd.func53.trans (congrArg some (by kernel_rfl))
 f172:=Tryd.func51.trans (congrArg some (by kernel_rfl))
 f205:=Tryd.func118.trans (congrArg some (by kernel_rfl))
 f243:=Tryd.func83.trans (congrArg some (by kernel_rfl))
 f244:=Tryd.func81.trans (congrArg some (by kernel_rfl))
 f245:=Tryd.func82.trans (congrArg some (by kernel_rfl))
 f246:=Tryd.func109.trans (congrArg some (by kernel_rfl))
 f247:=Tryd.func104.trans (congrArg some (by kernel_rfl))
 f279:=Tryd.func105.trans (congrArg some (by kernel_rfl))
 f280:=Tryd.func106.trans (congrArg some (by kernel_rfl))
 f281:=Tryd.func107.trans (congrArg some (by kernel_rfl))
 f282:=Tryd.func108.trans (congrArg some (by kernel_rfl))
 f283:=Tryd.func119.trans (congrArg some (by kernel_rfl))
 f284:=Tryd.func120.trans (congrArg some (by kernel_rfl))
 f285:=Tryd.func121.trans (congrArg some (by kernel_rfl))
 f286:=Tryd.func122.trans (congrArg some (by kernel_rfl))
 f287:=Tryd.func116.trans (congrArg some (by kernel_rfl))
 f316:=Tryd.func117.trans (congrArg some (by kernel_rfl))
 f317:=Tryd.func129.trans (congrArg some (by kernel_rfl))
 f318:=Tryd.func130.trans (congrArg some (by kernel_rfl))
 f319:=Tryd.func131.trans (congrArg some (by kernel_rfl))
 f320:=Tryd.func132.trans (congrArg some (by kernel_rfl))
 f321:=Tryd.func127.trans (congrArg some (by kernel_rfl))
 f322:=Tryd.func128.trans (congrArg some (by kernel_rfl))
 f337:=Tryd.func133.trans (congrArg some (by kernel_rfl))
 f338:=Tryd.func134.trans (congrArg some (by kernel_rfl))
 t0:=Tryd.underlying0
 a0:=Tryd.isAgg0
 z0:=Tryd.sizeOf0
 v0:=Tryd.zeroValue0
 t2:=Tryd.underlying2
 a2:=Tryd.isAgg2
 z2:=Tryd.sizeOf2
 v2:=Tryd.zeroValue2
 t3:=Tryd.underlying3
 a3:=Tryd.isAgg3
 z3:=Tryd.sizeOf3
 v3:=Tryd.zeroValue3
 t4:=Tryd.underlying4
 a4:=Tryd.isAgg4
 z4:=Tryd.sizeOf4
 v4:=Tryd.zeroValue4
 t5:=Tryd.underlying5
 a5:=Tryd.isAgg5
 z5:=Tryd.sizeOf5
 v5:=Tryd.zeroValue5
 t9:=Tryd.underlying9
 a9:=Tryd.isAgg9
 z9:=Tryd.sizeOf9
 v9:=Tryd.zeroValue9
 t20:=Tryd.underlying20
 a20:=Tryd.isAgg20
 z20:=Tryd.sizeOf20
 v20:=Tryd.zeroValue20
 t21:=Tryd.underlying21
 a21:=Tryd.isAgg21
 z21:=Tryd.sizeOf21
 v21:=Tryd.zeroValue21
 t37:=Tryd.underlying27
 a37:=Tryd.isAgg27
 z37:=Tryd.sizeOf27
 v37:=Tryd.zeroValue27
 t46:=Tryd.underlying93
 a46:=Tryd.isAgg93
 z46:=Tryd.sizeOf93
 v46:=Tryd.zeroValue93
 t51:=Tryd.underlying65
 a51:=Tryd.isAgg65
 z51:=Tryd.sizeOf65
 v51:=Tryd.zeroValue65
 t53:=Tryd.underlying39
 a53:=Tryd.isAgg39
 z53:=Tryd.sizeOf39
 v53:=Tryd.zeroValue39
 t75:=Tryd.underlying91
 a75:=Tryd.isAgg91
 z75:=Tryd.sizeOf91
 v75:=Tryd.zeroValue91
 t76:=Tryd.underlying96
 a76:=Tryd.isAgg96
 z76:=Tryd.sizeOf96
 v76:=Tryd.zeroValue96
 t85:=Tryd.underlying163
 a85:=Tryd.isAgg163
 z85:=Tryd.sizeOf163
 v85:=Tryd.zeroValue163
 t127:=Tryd.underlying113
 a127:=Tryd.isAgg113
 z127:=Tryd.sizeOf113
 v127:=Tryd.zeroValue113
 t143:=Tryd.underlying189
 a143:=Tryd.isAgg189
 z143:=Tryd.sizeOf189
 v143:=Tryd.zeroValue189
 t145:=Tryd.underlying191
 a145:=Tryd.isAgg191
 z145:=Tryd.sizeOf191
 v145:=Tryd.zeroValue191
 t167:=Tryd.underlying162
 a167:=Tryd.isAgg162
 z167:=Tryd.sizeOf162
 v167:=Tryd.zeroValue162
 t168:=Tryd.underlying165
 a168:=Tryd.isAgg165
 z168:=Tryd.sizeOf165
 v168:=Tryd.zeroValue165
 t171:=Tryd.underlying180
 a171:=Tryd.isAgg180
 z171:=Tryd.sizeOf180
 v171:=Tryd.zeroValue180
 t173:=Tryd.underlying183
 a173:=Tryd.isAgg183
 z173:=Tryd.sizeOf183
 v173:=Tryd.zeroValue183
 t175:=Tryd.underlying174
 a175:=Tryd.isAgg174
 z175:=Tryd.sizeOf174
 v175:=Tryd.zeroValue174
 t210:=Tryd.underlying178
 a210:=Tryd.isAgg178
 z210:=Tryd.sizeOf178
 v210:=Tryd.zeroValue178
 t212:=Tryd.underlying193
 a212:=Tryd.isAgg193
 z212:=Tryd.sizeOf193
 v212:=Tryd.zeroValue193
 t213:=Tryd.underlying194
 a213:=Tryd.isAgg194
 z213:=Tryd.sizeOf194
 t232:=Tryd.underlying197
 a232:=Tryd.isAgg197
 z232:=Tryd.sizeOf197
 v232:=Tryd.zeroValue197
 t233:=Tryd.underlying198
 a233:=Tryd.isAgg198
 z233:=Tryd.sizeOf198
 v233:=Tryd.zeroValue198
 g15:=by kernel_rfl
 g16:=by kernel_rfl
 g17:=by kernel_rfl
 g18:=by kernel_rfl
 g19:=by kernel_rfl
 t80:=Tryd.underlying94
 a80:=Tryd.isAgg94
 z80:=Tryd.sizeOf94
 v80:=Tryd.zeroValue94
 i0:=by kernel_rfl
 i2:=by kernel_rfl
 i3:=by kernel_rfl
 i4:=by kernel_rfl
 i5:=by kernel_rfl
 i9:=by kernel_rfl
 i20:=by kernel_rfl
 i21:=by kernel_rfl
 i37:=by kernel_rfl
 i46:=by kernel_rfl
 i51:=by kernel_rfl
 i53:=by kernel_rfl
 i75:=by kernel_rfl
 i76:=by kernel_rfl
 i80:=by kernel_rfl
 i85:=by kernel_rfl
 i127:=by kernel_rfl
 i143:=by kernel_rfl
 i145:=by kernel_rfl
 i167:=by kernel_rfl
 i168:=by kernel_rfl
 i171:=by kernel_rfl
 i173:=by kernel_rfl
 i175:=by kernel_rfl
 i210:=by kernel_rfl
 i212:=by kernel_rfl
 i232:=by kernel_rfl
 i233:=by kernel_rfl
 m15:=by kernel_rfl
 m16:=by kernel_rfl
 m17:=by kernel_rfl
 m18:=by kernel_rfl
 m19:=by kernel_rfl
 c0:=by kernel_rfl
 c2:=by kernel_rfl
 c3:=by kernel_rfl
 c4:=by kernel_rfl
 c5:=by kernel_rfl
 c9:=by kernel_rfl
 c20:=by kernel_rfl
 c21:=by kernel_rfl
 c37:=by kernel_rfl
 c46:=by kernel_rfl
 c51:=by kernel_rfl
 c53:=by kernel_rfl
 c75:=by kernel_rfl
 c76:=by kernel_rfl
 c80:=by kernel_rfl
 c85:=by kernel_rfl
 c127:=by kernel_rfl
 c143:=by kernel_rfl
 c145:=by kernel_rfl
 c167:=by kernel_rfl
 c168:=by kernel_rfl
 c171:=by kernel_rfl
 c173:=by kernel_rfl
 c175:=by kernel_rfl
 c210:=by kernel_rfl
 c212:=by kernel_rfl
 c213:=by kernel_rfl
 c232:=by kernel_rfl
 c233:=by kernel_rfl }
open Go.RowKit in
theorem Tryd.strconv_Atoi_ok (s:ByteArray) (hmax:s.size≤9223372036854775806) (v:Int) (h:Lib.atoiAll s.data.toList=.ok v) (w:World) :
  Calls Tryd.prog 51 #[.string s] w fun e w' => e=.returned (.tuple #[.int .i64 v,.nilIface])∧(w' = w∨∃ t,w' = Lib.bytesWorld w 5 t):=Any.strconv_Atoi_ok Tryd.laysC172 s hmax v h w
open Go.RowKit in
theorem Tryd.strconv_Atoi_syntax (s:ByteArray) (hlim:s.size≤281474976710656) (h:Lib.atoiAll s.data.toList=Lib.atoiAll []) (ev:Value) (w:World) (hv:w.cell? ⟨1,0,none⟩=some ev) (hev:ev=.nilIface∨∃ te pe,ev=.iface te pe) :
  Calls Tryd.prog 51 #[.string s] w fun e w' => ∃ N,e=.returned (.tuple #[.int .i64 (0),.iface 165 (.pointer (some ⟨N,0,none⟩))])∧w.heap.size≤N∧w'.heap[N]?=some (.cells #[.string ⟨#[65,116,111,105]⟩,.string s,ev] 178 (0,0))∧Below w.heap.size w w' := Any.strconv_Atoi_syntax Tryd.laysC172 s hlim (h.trans rfl) ev w hv hev
open Go.RowKit in
theorem Tryd.strconv_Atoi_range (s:ByteArray) (hlim:s.size≤281474976710656) (h:Lib.atoiAll s.data.toList=.range) (ev:Value) (w:World) (hv:w.cell? ⟨2,0,none⟩=some ev) (hev:ev=.nilIface∨∃ te pe,ev=.iface te pe) :
  Calls Tryd.prog 51 #[.string s] w fun e w' => ∃ N,e=.returned (.tuple #[.int .i64 (Lib.atoiSat s.data.toList),.iface 165 (.pointer (some ⟨N,0,none⟩))])∧w.heap.size≤N∧w'.heap[N]?=some (.cells #[.string ⟨#[65,116,111,105]⟩,.string s,ev] 178 (0,0))∧Below w.heap.size w w' := Any.strconv_Atoi_range Tryd.laysC172 s hlim h ev w hv hev
def Tryd.lays187_ren:Go.Shelf.Ren:=⟨fun | 187=>76 | 255=>102 | n=>n,fun | 37=>27 | 5=>5 | 3=>3 | n=>n,fun | n=>n⟩
theorem Tryd.lays187:Go.Proofs.Lays.n187 Tryd.prog Tryd.lays187_ren:={
 mixed:=by kernel_rfl
 f187:=Tryd.func76.trans (congrArg some (by kernel_rfl))
 f255:=Tryd.func102.trans (congrArg some (by kernel_rfl))
 t3:=Tryd.underlying3
 a3:=Tryd.isAgg3
 z3:=Tryd.sizeOf3
 v3:=Tryd.zeroValue3
 t5:=Tryd.underlying5
 a5:=Tryd.isAgg5
 z5:=Tryd.sizeOf5
 v5:=Tryd.zeroValue5
 t37:=Tryd.underlying27
 a37:=Tryd.isAgg27
 z37:=Tryd.sizeOf27
 v37:=Tryd.zeroValue27 }
open Go.RowKit Go.Lib in
theorem Tryd.bytes_IndexByte_at (a:Addr) (n c:Nat) (xs:List Int) (cv:Int) (w:World) (hx:xs.length=n) (hc:∀ i,i<n→w.cell? (a.add i)=some (.int .u8 (xs.getD i 0))) :
  Calls Tryd.prog 76 #[.slice (some a) n c,.int .u8 cv] w fun e w' => e=.returned (.int .i64 (Lib.indexByte (Lib.bytesOf xs) cv.toNat.toUInt8))∧w' = w:=Any.bytes_IndexByte_at Tryd.lays187 a n c xs cv w hx hc
end Go.Proofs.YtakolikdebfkeaaDoor
namespace Go.Proofs.YtakolikdebfkeaaDoor
open Go.RowKit
section
variable {P : Program} {f : FuncId} {sp sp1 sp2 : Spec}
end
section
variable {P : Program} {f : FuncId} {sp : Spec}
end
theorem loop2P {Φ:Phi} {m:Nat} {c:ACode} {Q:Exit→S2→Prop} {s:S2} {α:Type} (nils:List (Nat × TypeId × Nat)) (sl ids:List Nat) (st:α→St) (Inv:α→Prop) (μ:α→Nat) (a0:α) (hk:ent nils sl ids (toS s)=some (st a0)) (h0:Inv a0) (hm:nodupB ids=true∧ids.take m=List.range m)
  (h:∀ a,Inv a→∀ R:S2→Prop,(∀ s' a',Inv a' → μ a' < μ a→kp sl ids.length (toS s')=some (st a')→R s')→awp2 Φ m c (thenQ2 R Q) (ofS (st a))):loopQ2 m (awp2 Φ m c) Q s :=
 loop2 nils sl ids st Inv μ a0 hk h0 hm fun a ha=>h a ha _ fun _ a' h1 h2 h3=>⟨a',h1,h2,h3⟩
end Go.Proofs.YtakolikdebfkeaaDoor
namespace Go.Proofs.YtakolikdebfkeaaDoor
open Go.RowKit
open Go.Lib (index hasPrefix trimPrefix cut indexAny)
end Go.Proofs.YtakolikdebfkeaaDoor
namespace Go.Proofs.YtakolikdebfkeaaDoor
open Go.RowKit
open Go.Lib (index hasPrefix trimPrefix cut occAt indexAny replaceK replaceNum replaceAll)
theorem occAt_1 {s:List UInt8} {c:UInt8} {j:Nat} (h:occAt s [c] j=true):s[j]?=some c:=by
 unfold occAt at h
 cases hd:s.drop j with
 | nil=>rw [hd] at h; cases h
 | cons x r =>
  rw [hd] at h
  have e:c=x:=by simpa [List.isPrefixOf] using h
  have:=congrArg (fun l=>l[0]?) hd
  simpa [e] using this
theorem occAt_append (a p b:List UInt8):occAt (a ++ (p ++ b)) p a.length=true:=by
 unfold occAt
 rw [List.drop_left]
 simp [List.isPrefixOf_iff_prefix]
theorem index_app {a p b:List UInt8} (h:∀ j,j<a.length→occAt (a ++ (p ++ b)) p j=false):index (a ++ (p ++ b)) p=a.length :=
 Lib.index_first (by simp) (occAt_append a p b) h
theorem cut_app {a p b:List UInt8} (h:∀ j,j<a.length→occAt (a ++ (p ++ b)) p j=false):cut (a ++ (p ++ b)) p=(a,b,true):=by
 have e:=index_app h
 have e2:(index (a ++ (p ++ b)) p).toNat=a.length:=by omega
 unfold cut
 rw [if_pos (by omega),e2,List.take_left,← List.drop_drop,List.drop_left,List.drop_left]
theorem cut_1 {a b:List UInt8} {c:UInt8} (h:c ∉ a):cut (a ++ c :: b) [c]=(a,b,true):=by
 refine cut_app (p:=[c]) fun j hj=>?_
 rw [Bool.eq_false_iff]
 intro ho
 have:=occAt_1 ho
 rw [List.getElem?_append_left hj] at this
 exact h (List.mem_of_getElem? this)
theorem cut_t {s p:List UInt8} (h:(cut s p).2.2=true):s=(cut s p).1 ++ (p ++ (cut s p).2.1):=by
 unfold cut at h ⊢
 split at h
 ·rename_i hi
  rw [if_pos hi]
  simp only
  rcases Lib.index_spec s p with h1 | ⟨i,h1,h2,h3,_⟩
  ·omega
  ·have e:(index s p).toNat=i:=by omega
   rw [e]
   unfold occAt at h3
   rw [List.isPrefixOf_iff_prefix] at h3
   obtain ⟨r,hr⟩:=h3
   rw [← List.drop_drop,← hr,List.drop_left,hr,List.take_append_drop]
 ·cases h
theorem cut_f {s p:List UInt8} (h:(cut s p).2.2=false):(cut s p).1=s∧(cut s p).2.1=[]:=by
 unfold cut at h ⊢
 split at h
 ·cases h
 ·rename_i hi
  rw [if_neg hi]
  exact ⟨rfl,rfl⟩
end Go.Proofs.YtakolikdebfkeaaDoor
namespace Go.Proofs.YtakolikdebfkeaaDoor
open Go.RowKit
noncomputable def sealF {α β:Type} (f:α→β):α→β:=Classical.choose (⟨f,fun _=>rfl⟩:∃ g:α→β,∀ a,g a=f a)
theorem sealF_eq {α β:Type} (f:α→β) (a:α):sealF f a=f a:=Classical.choose_spec (⟨f,fun _=>rfl⟩:∃ g:α→β,∀ a,g a=f a) a
theorem tdiv_nat (n k:Nat):((n:Int)).tdiv (k:Int)=((n / k:Nat):Int):=by rw [Int.tdiv_eq_ediv_of_nonneg (by omega)]; rfl
theorem tmod_nat (n k:Nat):((n:Int)).tmod (k:Int)=((n % k:Nat):Int):=by rw [Int.tmod_eq_emod_of_nonneg (by omega)]; rfl
theorem wrap8n {n:Nat} (h:n<256):IntKind.u8.wrap (n:Int)=(n:Int):=by rw [IntKind.wrap_u8']; omega
end Go.Proofs.YtakolikdebfkeaaDoor
namespace Go.Proofs.YtakolikdebfkeaaDoor
open Go.RowKit
def o8 (n:Nat):UInt8:=UInt8.ofNat n
theorem o8_toNat (n:Nat):(o8 n).toNat=n % 256:=by simp [o8]
theorem ub_o8 (n:Nat):ub (o8 n)=.int .u8 ((n % 256:Nat):Int):=by simp [ub,o8_toNat]
theorem Bs_o8 (n:Nat) (h:n<256):[(.int .u8 (n:Int):AV)]=Bs [o8 n]:=by simp [Bs,ub_o8,Nat.mod_eq_of_lt h]
theorem i64_and (a b:Nat) (ha:a<9223372036854775808) (hb:b<9223372036854775808):bits .and .i64 (a:Int) (b:Int)=((a &&& b:Nat):Int):=by
 have hx:a &&& b<2 ^ 63:=Nat.and_lt_two_pow _ (by omega)
 have h1:(BitVec.ofInt 64 (a:Int)).toNat=a:=by
  rw [BitVec.ofInt_natCast,BitVec.toNat_ofNat]; exact Nat.mod_eq_of_lt (by omega)
 have h2:(BitVec.ofInt 64 (b:Int)).toNat=b:=by
  rw [BitVec.ofInt_natCast,BitVec.toNat_ofNat]; exact Nat.mod_eq_of_lt (by omega)
 show IntKind.i64.wrap ((BitVec.ofInt 64 (a:Int) &&& BitVec.ofInt 64 (b:Int)).toNat:Int)=_
 rw [BitVec.toNat_and,h1,h2,IntWalk.i64_in _ (by omega)]
theorem i64_or (a b:Nat) (ha:a<9223372036854775808) (hb:b<9223372036854775808):bits .or .i64 (a:Int) (b:Int)=((a ||| b:Nat):Int):=by
 have hx:a ||| b<2 ^ 63:=Nat.or_lt_two_pow (by omega) (by omega)
 have h1:(BitVec.ofInt 64 (a:Int)).toNat=a:=by
  rw [BitVec.ofInt_natCast,BitVec.toNat_ofNat]; exact Nat.mod_eq_of_lt (by omega)
 have h2:(BitVec.ofInt 64 (b:Int)).toNat=b:=by
  rw [BitVec.ofInt_natCast,BitVec.toNat_ofNat]; exact Nat.mod_eq_of_lt (by omega)
 show IntKind.i64.wrap ((BitVec.ofInt 64 (a:Int) ||| BitVec.ofInt 64 (b:Int)).toNat:Int)=_
 rw [BitVec.toNat_or,h1,h2,IntWalk.i64_in _ (by omega)]
end Go.Proofs.YtakolikdebfkeaaDoor
