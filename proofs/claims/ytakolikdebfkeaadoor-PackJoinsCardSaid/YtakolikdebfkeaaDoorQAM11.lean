import Derived.Test.YtakolikdebfkeaaDoorQAMS
import Derived.Test.YtakolikdebfkeaaDoorQFPk1
import Derived.Test.YtakolikdebfkeaaDoorQFDfl5
import Derived.Test.YtakolikdebfkeaaDoorQFNRight
import Derived.Test.YtakolikdebfkeaaDoorQNumLaw
import Derived.Test.YtakolikdebfkeaaDoorChecked
import Derived.Lib.BitFns
import Derived.Test.YtakolikdebfkeaaDoorQArgs
import Derived.WideKeyArr2
import Derived.ChangeSame
import Derived.ChangeMaps5
import Derived.OpenShut
import Derived.Lib.SmallJoins
open Nat (reduceDiv reduceMod reduceSub reduceAdd reduceLeDiff reduceEqDiff)
set_option linter.all false
namespace Go.Proofs.YtakolikdebfkeaaDoor
open Go.RowKit
def thawH (hp0:List AObj):List Nat→List AObj→List AObj
 | [],hp=>hp
 | i :: r,hp=>thawH hp0 r (hp.set i (hp0.getD i .gone))
def thawQ (hp0 hp1:List AObj) (l keep:List Nat) (s:St) (K:St→Prop):Prop :=
 (∀ i∈l,s.hp[i]?=hp1[i]?)∧(∀ i o,s.hp[i]?=some o→i ∉ l→flatO o)∧(∀ n∈keep,flatB 4 (lk s.fr n)=true)∧K ⟨keep.map fun n=>(n,lk s.fr n),thawH hp0 l s.hp⟩
theorem thaw_len (hp0:List AObj):∀ (l:List Nat) (hp:List AObj),(thawH hp0 l hp).length=hp.length
 | [],_=>rfl
 | i :: r,hp=>by rw [thawH,thaw_len hp0 r,List.length_set]
theorem thaw_out (hp0:List AObj):∀ (l:List Nat) (hp:List AObj) (j:Nat),j ∉ l→(thawH hp0 l hp)[j]?=hp[j]?
 | [],_,_,_=>rfl
 | i :: r,hp,j,h=>by
  rw [thawH,thaw_out hp0 r _ j (fun hj=>h (by simp [hj])),List.getElem?_set_ne (fun e=>h (by simp [e]))]
theorem thaw_in (hp0:List AObj):∀ (l:List Nat) (hp:List AObj) (j:Nat),j∈l→j<hp.length→j<hp0.length→(thawH hp0 l hp)[j]?=hp0[j]?
 | [],_,_,h,_,_=>by simp at h
 | i :: r,hp,j,h,h1,h2=>by
  rw [thawH]
  by_cases hj:j∈r
  ·exact thaw_in hp0 r _ j hj (by rw [List.length_set]; exact h1) h2
  ·rw [thaw_out hp0 r _ j hj]
   rcases List.mem_cons.1 h with e | e
   ·subst e
    rw [List.getElem?_set_self (by exact h1),List.getElem?_eq_getElem h2]
    simp [List.getD_eq_getElem?_getD,h2]
   ·exact absurd e hj
def isRowB (hp:List AObj) (i:Nat):Bool:=match hp[i]? with
 | some (.row _ _ _ _)=>true
 | _=>false
inductive ZT (Φ:Phi) (m:Nat):ACode→(Exit→S2→Prop)→S2→Prop
 | zl {c:ACode} {Q:Exit→S2→Prop} {s:S2}:ZL Φ m c Q s→ZT Φ m c Q s
 | seq {x y:ACode} {Q:Exit→S2→Prop} {s:S2} (K:S2→Prop):ZT Φ m x (thenQ2 K Q) s→(∀ s1,K s1→ZT Φ m y Q s1)→ZT Φ m (.seq x y) Q s
 | lend {c:ACode} {Q:Exit→S2→Prop} {s:S2} (l keep:List Nat) (hp1:List AObj):frzH s.hp l=some hp1→l.all (isRowB s.hp)=true →
   awp2 Φ s.hp.length c (fun e s2=>kpQ s.hp.length keep (toS s2) fun s' => thawQ s.hp hp1 l keep s' fun s3=>Q e (ofS s3)) ⟨s.fr,hp1⟩→ZT Φ m c Q s
section
variable {P : Program} {Φ : Phi} {F : Nat → Prop} {w0 w : World} {S0 S : Nat → Prop} {ρ0 ρ : Rho} {N m : Nat} {ds : List Deferred} {a : Act}
theorem frzH_len:∀ (l:List Nat) {hp hp' : List AObj},frzH hp l=some hp' → hp'.length=hp.length:=by
 intro l
 induction l with
 | nil=>intro hp hp' h; injection h with h; subst h; rfl
 | cons i r ih =>
  intro hp hp' h
  simp only [frzH] at h
  split at h
  ·split at h
   ·rw [ih h,List.length_set]
   ·cases h
  ·exact ih h
  ·cases h
theorem frzH_at:∀ (l:List Nat) {hp hp' : List AObj},frzH hp l=some hp' → ∀ i∈l,(∃ e sz v xs,hp[i]?=some (.row e sz v xs)∧0<sz∧hp'[i]?=some (.froz sz v xs))∨∃ sz v xs,hp[i]?=some (.froz sz v xs)∧hp'[i]?=some (.froz sz v xs):=by
 intro l
 have keep:∀ (l:List Nat) {hp hp' : List AObj} (i:Nat) (sz v:Nat) (xs:List AV),frzH hp l=some hp' → hp[i]?=some (.froz sz v xs)→hp'[i]?=some (.froz sz v xs):=by
  intro l
  induction l with
  | nil=>intro hp hp' i sz v xs h hi; injection h with h; subst h; exact hi
  | cons j r ih =>
   intro hp hp' i sz v xs h hi
   simp only [frzH] at h
   split at h
   ·rename_i ho
    split at h
    ·refine ih i sz v xs h ?_
     by_cases e:j=i
     ·subst e; rw [hi] at ho; cases ho
     ·rw [List.getElem?_set_ne e]; exact hi
    ·cases h
   ·exact ih i sz v xs h hi
   ·cases h
 have ahead:∀ (l:List Nat) {hp hp' : List AObj} (i:Nat),frzH hp l=some hp' → i ∉ l→hp'[i]?=hp[i]?:=by
  intro l
  induction l with
  | nil=>intro hp hp' i h _; injection h with h; subst h; rfl
  | cons j r ih =>
   intro hp hp' i h hi
   simp only [frzH] at h
   split at h
   ·split at h
    ·rw [ih i h (fun h=>hi (by simp [h])),List.getElem?_set_ne (fun e=>hi (by simp [e]))]
    ·cases h
   ·exact ih i h (fun h=>hi (by simp [h]))
   ·cases h
 induction l with
 | nil=>intro hp hp' _ i hi; simp at hi
 | cons j r ih =>
  intro hp hp' h i hi
  simp only [frzH] at h
  split at h
  ·rename_i e sz v xs ho
   split at h
   ·rename_i hsz
    have hlt:j<hp.length:=by
     rcases Nat.lt_or_ge j hp.length with h1 | h1
     ·exact h1
     ·rw [List.getElem?_eq_none h1] at ho; cases ho
    by_cases eij:i=j
    ·subst eij
     exact .inl ⟨e,sz,v,xs,ho,hsz,keep r i sz v xs h (List.getElem?_set_self hlt)⟩
    ·have hir:i∈r:=by
      rcases List.mem_cons.1 hi with h | h
      ·exact absurd h eij
      ·exact h
     rcases ih h i hir with ⟨e',sz',v',xs',k1,k2,k3⟩ | ⟨sz',v',xs',k1,k3⟩
     ·rw [List.getElem?_set_ne (Ne.symm eij)] at k1
      exact .inl ⟨e',sz',v',xs',k1,k2,k3⟩
     ·rw [List.getElem?_set_ne (Ne.symm eij)] at k1
      exact .inr ⟨sz',v',xs',k1,k3⟩
   ·cases h
  ·rename_i sz v xs ho
   by_cases eij:i=j
   ·subst eij
    exact .inr ⟨sz,v,xs,ho,keep r i sz v xs h ho⟩
   ·have hir:i∈r:=by
     rcases List.mem_cons.1 hi with h | h
     ·exact absurd h eij
     ·exact h
    exact ih h i hir
  ·cases h
theorem flat_obj {id:Nat} {o:AObj} {S' : Nat→Prop} (hf:flatO o) (h:ObjOk w S ρ id o) (hS:∀ b,S' b→S b):ObjOk w S' ρ id o:=by
 cases o with
 | cells t ps =>
  obtain ⟨g,us,h1,h2,h3,h4⟩:=h
  exact ⟨g,us,h1,h2,css_of_all (flatPs_all hf) h3,fun hs=>h4 (hS g hs)⟩
 | mp ks es =>
  obtain ⟨g,arr,clock,h1,h2,h3,h4,h5⟩:=h
  exact ⟨g,arr,clock,h1,h2,map_of_all hf h3,h4,fun hs=>h5 (hS g hs)⟩
 | row e sz ver xs =>
  obtain ⟨L,us,h1,h2,h3,h4,h5,h6⟩:=h
  refine ⟨L,us,h1,h2,h3,h4,css_of_all (fun p hp=>?_) h5,fun g hg hs=>h6 g hg (hS g hs)⟩
  obtain ⟨x,hx,rfl⟩:=List.mem_map.1 hp
  exact hf x hx
 | froz sz ver xs=>exact hf.elim
 | gone=>exact h
theorem RelS.thaw {l keep:List Nat} {hp1:List AObj} {s s2:St} {S1 S2:Nat→Prop} {ρ2:Rho} {w' : World} {a' : Act} {K:St→Prop} (R:RelS F w0 S0 ρ0 N ds S ρ s a w) (hz:frzH s.hp l=some hp1)
  (h1:HeapOk F w0 S1 ρ hp1 w) (h2:∀ b,S b→S1 b) (h3:∀ b,Brw ρ s.hp l b→S1 b)
  (R2:RelS (fun b=>F b∨w0.heap.size≤b) w S1 ρ N ds S2 ρ2 s2 a' w') (hT:thawQ s.hp hp1 l keep s2 K) (hl:∀ i∈l,∃ e sz v xs,s.hp[i]?=some (.row e sz v xs)):∃ s3,K s3∧Rel F w0 S0 ρ0 N ds s3 a' w' := by
 obtain ⟨t1,t2,t3,t4⟩:=hT
 refine ⟨_,t4,S,ρ2,?_⟩
 have hsz:w0.heap.size≤w.heap.size:=R.heap.kept.size
 have hS2:∀ b,S b→S2 b:=fun b hb=>R2.ext.st b (h2 b hb)
 have hmem:∀ b,S b→w'.heap[b]?=w.heap[b]?:=fun b hb=>R2.ext.mem b (h2 b hb)
 have hat:=frzH_at l hz
 have obj:∀ (i:Nat) (o:AObj),(thawH s.hp l s2.hp)[i]?=some o→(i∈l∧s.hp[i]?=some o∧∃ e sz v xs L,o=.row e sz v xs∧s2.hp[i]?=some (.froz sz v xs)∧ρ i v=some L∧ρ2 i v=some L)∨(i ∉ l∧s2.hp[i]?=some o):=by
  intro i o ho
  by_cases hi:i∈l
  ·obtain ⟨e,sz,v,xs,k1⟩:=hl i hi
   have k3:s2.hp[i]?=some (.froz sz v xs):=by
    rw [t1 i hi]
    rcases hat i hi with ⟨e',sz',v',xs',q1,q2,q3⟩ | ⟨sz',v',xs',q1,q3⟩
    ·rw [k1] at q1; injection q1 with q1; injection q1 with q1 q4 q5 q6; subst q4; subst q5; subst q6; exact q3
    ·rw [k1] at q1; cases q1
   have hlt1:i<s.hp.length:=(List.getElem?_eq_some_iff.1 k1).1
   have hlt2:i<s2.hp.length:=(List.getElem?_eq_some_iff.1 k3).1
   rw [thaw_in s.hp l s2.hp i hi hlt2 hlt1] at ho
   rw [k1] at ho; injection ho with ho; subst ho
   obtain ⟨L,us,q1,_⟩:=R.heap.ob i _ k1
   exact .inl ⟨hi,k1,e,sz,v,xs,L,rfl,k3,q1,R2.ext.loc _ _ _ q1⟩
  ·rw [thaw_out s.hp l s2.hp i hi] at ho
   exact .inr ⟨hi,ho⟩
 have blkl:∀ (i:Nat) (o:AObj),(thawH s.hp l s2.hp)[i]?=some o→i∈l→∀ b,o.blk ρ2 i=some b→o.blk ρ i=some b∧S1 b:=by
  intro i o ho hi b hb
  rcases obj i o ho with ⟨_,k1,e,sz,v,xs,L,rfl,k3,q1,q2⟩ | ⟨hn,_⟩
  ·have hb' : (AObj.row e sz v xs).blk ρ i=some b:=by
    simp only [AObj.blk,q2,Option.bind_some] at hb
    simp only [AObj.blk,q1,Option.bind_some]; exact hb
   exact ⟨hb',h3 b ⟨i,_,hi,k1,hb'⟩⟩
  ·exact absurd hi hn
 have H:HeapOk F w0 S ρ2 (thawH s.hp l s2.hp) w' := by
  refine ⟨R.heap.kept.cont R2.heap.kept (fun b hb=>hb),fun i o ho=>?_,fun i j x y hij hx hy b hbx hby=>?_,fun i o ho b hb=>?_,fun b hb=>R2.heap.slt b (hS2 b hb),fun i hi v=>?_,fun i o ho v hv=>?_⟩
  ·rcases obj i o ho with ⟨hi,k1,e,sz,v,xs,L,rfl,k3,q1,q2⟩ | ⟨hn,ho2⟩
   ·obtain ⟨L',us,o1,o2,o3,o4,o5,o6⟩:=R.heap.ob i _ k1
    rw [q1] at o1; injection o1 with o1; subst o1
    refine ⟨L,us,q2,o2,o3,?_,o5.ext ⟨hmem,fun _ h=>h,fun _ _ _ h=>h⟩,o6⟩
    obtain ⟨r1,r2⟩:=o4
    refine ⟨r1,?_⟩
    rcases r2 with r2 | ⟨g,cur,fr,r3,r4,r5⟩
    ·exact .inl r2
    ·refine .inr ⟨g,cur,fr,r3,?_,r5⟩
     have hb:(AObj.row e sz v xs).blk ρ i=some g:=by simp [AObj.blk,q1,r3,ablk]
     rw [R2.ext.mem g (h3 g ⟨i,_,hi,k1,hb⟩)]; exact r4
   ·exact flat_obj (t2 i o ho2 hn) (R2.heap.ob i o ho2) hS2
  ·by_cases hi:i∈l <;> by_cases hj:j∈l
   ·obtain ⟨b1,_⟩:=blkl i x hx hi b hbx
    obtain ⟨b2,_⟩:=blkl j y hy hj b hby
    rcases obj i x hx with ⟨_,k1,_⟩ | ⟨hn,_⟩
    ·rcases obj j y hy with ⟨_,k2,_⟩ | ⟨hn,_⟩
     ·exact R.heap.apart i j x y hij k1 k2 b b1 b2
     ·exact absurd hj hn
    ·exact absurd hi hn
   ·obtain ⟨_,b1⟩:=blkl i x hx hi b hbx
    rcases obj j y hy with ⟨hj',_⟩ | ⟨_,ho2⟩
    ·exact absurd hj' hj
    ·exact (R2.heap.ob j y ho2).notS b hby (R2.ext.st b b1)
   ·obtain ⟨_,b1⟩:=blkl j y hy hj b hby
    rcases obj i x hx with ⟨hi',_⟩ | ⟨_,ho2⟩
    ·exact absurd hi' hi
    ·exact (R2.heap.ob i x ho2).notS b hbx (R2.ext.st b b1)
   ·rcases obj i x hx with ⟨hi',_⟩ | ⟨_,k1⟩
    ·exact absurd hi' hi
    ·rcases obj j y hy with ⟨hj',_⟩ | ⟨_,k2⟩
     ·exact absurd hj' hj
     ·exact R2.heap.apart i j x y hij k1 k2 b hbx hby
  ·by_cases hi:i∈l
   ·obtain ⟨b1,_⟩:=blkl i o ho hi b hb
    rcases obj i o ho with ⟨_,k1,_⟩ | ⟨hn,_⟩
    ·exact R.heap.mine i o k1 b b1
    ·exact absurd hi hn
   ·rcases obj i o ho with ⟨hi',_⟩ | ⟨_,ho2⟩
    ·exact absurd hi' hi
    ·rcases R2.heap.mine i o ho2 b hb with h | h
     ·exact h
     ·exact .inr (Nat.le_trans hsz h)
  ·rw [thaw_len] at hi; exact R2.heap.new i hi v
  ·rcases obj i o ho with ⟨_,k1,e,sz,u,xs,L,rfl,k3,q1,q2⟩ | ⟨hn,ho2⟩
   ·exact R2.heap.vers i _ k3 v hv
   ·exact R2.heap.vers i o ho2 v hv
 refine ⟨H,⟨R.fr.1.ext hmem (fun _ h=>h),fun t=>?_⟩,R2.size,R2.dfr,R.sin,R.ext.trans ⟨hmem,fun _ h=>h,R2.ext.loc⟩⟩
 have key:∀ (k:List Nat),(∀ n∈k,flatB 4 (lk s2.fr n)=true)→Vl w' S ρ2 (lk (k.map fun n=>(n,lk s2.fr n)) t) (a'.tmps.getD t undef):=by
  intro k
  induction k with
  | nil=>intro _; exact Vl.top _
  | cons n r ih =>
   intro h
   simp only [List.map_cons,lk]
   split
   ·rename_i e
    subst e
    exact flat_vl (h n (by simp)) (R2.fr.2 n)
   ·exact ih fun n hn=>h n (by simp [hn])
 exact key keep t3
theorem ZT.ok (hΦ:PhiOk P Φ) (hm0:∀ i v L,ρ0 i v=some L→i<m) {c:ACode} {Q:Exit→S2→Prop} {s2:S2} (h:ZT Φ m c Q s2):∀ (code:Code),MtC P N code c→∀ (Q' : Exit→Act→World→Prop),
  (∀ e s s2 a w,R2 s s2→Q e s2→Rel F w0 S0 ρ0 N ds s a w→Q' e a w)→∀ s a w,R2 s s2→Rel F w0 S0 ρ0 N ds s a w→code.wp P Q' a w:=by
 induction h with
 | zl h=>exact h.ok hΦ hm0
 | @seq x y Q s0 K hx hk ihx ihy =>
  intro code hm Q' hQ s a w hR R
  cases code <;> first | exact hm.elim | (rename_i d; cases d <;> exact hm.elim) | skip
  case seq x' y' =>
   refine wp_seq (ihx x' hm.1 _ (fun e s s2 a w h2 hq R=>?_) s a w hR R)
   cases e <;> first | exact ihy s2 hq y' hm.2 Q' hQ s a w h2 R | exact hQ _ _ _ _ _ h2 hq R
 | @lend c Q s0 l keep hp1 hz hrow hb =>
  intro code hm Q' hQ s a w hR R
  have e0:s.hp=s0.hp:=hR.1
  have hz' : frzH s.hp l=some hp1:=by rw [e0]; exact hz
  obtain ⟨S,ρ,R⟩:=R
  obtain ⟨S1,i1,i2,i3,i4⟩:=frzH_ok l R.heap hz'
  have hE:Ext w w S S1 ρ ρ:=⟨fun _ _=>rfl,i2,fun _ _ _ h=>h⟩
  have hlen:=frzH_len l hz'
  have B:RelS (fun b=>F b∨w0.heap.size≤b) w S1 ρ N ds S1 ρ ⟨s.fr,hp1⟩ a w :=
   ⟨⟨Kept.refl _ w,i1.ob,i1.apart,fun i o ho b hb=>.inl (i1.mine i o ho b hb),i1.slt,i1.new,i1.vers⟩,R.fr.ext hE,R.size,R.dfr,fun b hb=>.inl hb,Ext.refl _ _ _⟩
  have hmm:∀ i v L,ρ i v=some L→i<s0.hp.length:=fun i v L hL=>by
   rcases Nat.lt_or_ge i s.hp.length with h | h
   ·rw [← e0]; exact h
   ·rw [R.heap.new i h] at hL; cases hL
  have hl:∀ i∈l,∃ e sz v xs,s.hp[i]?=some (.row e sz v xs):=fun i hi=>by
   have:=List.all_eq_true.1 hrow i hi
   unfold isRowB at this
   rw [e0]
   split at this
   ·rename_i e sz v xs h; exact ⟨e,sz,v,xs,h⟩
   ·cases this
  refine awp_ok hΦ hmm _ code hm (fun e s=>∃ s2,Go.Proofs.YtakolikdebfkeaaDoor.R2 s s2∧kpQ s0.hp.length keep (toS s2) fun s' => thawQ s0.hp hp1 l keep s' fun s3=>Q e (ofS s3)) Q' (fun e s' a' w' ⟨s2,k1,k2⟩ R' => ?_) ⟨s.fr,hp1⟩ a w
   (awp2_ok _ _ (fun e s2=>kpQ s0.hp.length keep (toS s2) fun s' => thawQ s0.hp hp1 l keep s' fun s3=>Q e (ofS s3)) (fun e s s2 h hq=>⟨s2,h,hq⟩) ⟨s.fr,hp1⟩ ⟨s0.fr,hp1⟩ ⟨rfl,hR.2⟩ hb) ⟨S1,ρ,B⟩
  obtain ⟨s4,k2,S2,ρ2,R2'⟩:=kpQ_rel hmm k2 (Rel.toS k1 R')
  obtain ⟨s3,q1,q2⟩:=R.thaw hz' i1 i2 i3 R2' (by rw [e0]; exact k2) hl
  exact hQ e s3 (ofS s3) a' w' (Go.Proofs.YtakolikdebfkeaaDoor.R2.ofS s3) q1 q2
theorem ZT.fin {c:ACode} {Q:Exit→S2→Prop} {s:S2} (h:awp2 Φ m c Q s):ZT Φ m c Q s:=.zl (.fin h)
theorem ZT.step {x y:ACode} {Q:Exit→S2→Prop} {s:S2} (h:awp2 Φ m x (thenQ2 (ZT Φ m y Q) Q) s):ZT Φ m (.seq x y) Q s:=.seq _ (.fin h) (fun _ h=>h)
theorem fnT_ok {f:FuncId} {fn:Func} {code:Code} {ac:ACode} {rs:List ARes} {sp:Spec} (hf:P.funcs[f]?=some fn) (hb:fn.body=some code) (hm:MtC P fn.ntmps code ac) (hr:All2 (MtR P) fn.results.toList rs) (hΦ:PhiOk P Φ)
  (h:∀ «as» hp r,sp «as» hp=some r→r.pre→«as».length≤fn.ntmps∧ZT Φ hp.length ac (retQ2 rs hp.length r) (ofS ⟨slots 0 «as»,hp⟩)):FnOk P f sp:=by
 intro «as» hp r hs hp' w S ρ args H ha
 obtain ⟨hlen,hw⟩:=h «as» hp r hs hp'
 refine calls_of_wp hf hb ?_
 have hal:args.length≤fn.ntmps:=by rw [ha.2]; exact hlen
 have R:Rel (Lent ρ hp) w S ρ fn.ntmps [] ⟨slots 0 «as»,hp⟩ { tmps:=args.toArray ++ Array.replicate (fn.ntmps - args.toArray.size) undef,defers:=[] } w:=by
  refine ⟨S,ρ,H,⟨ha.1,fun t=>?_⟩,by simp; omega,rfl,fun b hb=>.inl hb,Ext.refl _ _ _⟩
  rw [lk_slots,if_pos (Nat.zero_le t),Nat.sub_zero]
  rcases Nat.lt_or_ge t «as».length with hlt | hge
  ·have:=ha.3 t hlt
   have e:(args.toArray ++ Array.replicate (fn.ntmps - args.toArray.size) undef).getD t undef=args.getD t undef:=by
    have hta:t<args.length:=by rw [ha.2]; exact hlt
    have h1:(args.toArray ++ Array.replicate (fn.ntmps - args.toArray.size) undef)[t]?=some args[t]:=by
     rw [Array.getElem?_append_left (by simpa using hta)]; simp [hta]
    rw [Array.getD_eq_getD_getElem?,h1,List.getD_eq_getElem?_getD,List.getElem?_eq_getElem hta]
   rw [e]; exact this
  ·have:«as».getD t .top=.top:=by rw [List.getD_eq_getElem?_getD,List.getElem?_eq_none hge]; rfl
   rw [this]; exact Vl.top _
 have fin:∀ (s:St) (a:Act) (w' : World),finP hp.length r s (aret s rs)→Rel (Lent ρ hp) w S ρ fn.ntmps [] s a w' →
   a.defers=[]∧∃ v,(results fn a.tmps).run P w' = .ok v w' ∧ ∃ v' S' ρ',Ending.returned v=.returned v' ∧ Vl w' S' ρ' r.v v' ∧ HeapOk (Lent ρ hp) w S' ρ' r.hp w' ∧ Ext w w' S S' ρ ρ' ∧ (∀ b,S' b→S b∨w.heap.size≤b∨Lent ρ hp b):=by
  intro s a w' hfin hR
  obtain ⟨S',ρ',R⟩:=hR
  unfold finP at hfin
  split at hfin
  ·rename_i x p hx
   obtain ⟨hp1,hfin⟩:=hfin
   generalize closeIds s.hp 2 (addNew (List.range hp.length) (idsOf 4 x))=ids at hfin
   obtain ⟨i1,i2,i3,i4⟩:=hfin
   obtain ⟨v,hv1,hv2⟩:=aret_ok R.heap.obs R.fr hr hx hp1
   obtain ⟨H',hσ⟩:=R.heap.restr i2 i4
   refine ⟨R.dfr,v,hv1,v,S',_,rfl,ren_vl hσ i3 hv2,H',⟨R.ext.mem,R.ext.st,fun i u L hL=>?_⟩,fun b hb=>?_⟩
   ·have hi:i<hp.length:=by
     rcases Nat.lt_or_ge i hp.length with h1 | h1
     ·exact h1
     ·rw [H.new i h1] at hL; cases hL
    have h1:ids[i]?=some i:=by
     have:(ids.take hp.length)[i]?=some i:=by rw [i1]; simp [hi]
     rw [List.getElem?_take,if_pos hi] at this; exact this
    simp only [h1]
    exact R.ext.loc _ _ _ hL
   ·rcases R.sin b hb with h | h | h
    ·exact .inl h
    ·exact .inr (.inr h)
    ·exact .inr (.inl h)
  ·exact hfin.elim
 refine hw.ok hΦ (fun i v L hL=>?_) code hm _ (fun e s s2 a w' h2 hq R' => ?_) _ _ w (R2.ofS _) R
 ·rcases Nat.lt_or_ge i hp.length with h1 | h1
  ·exact h1
  ·rw [H.new i h1] at hL; cases hL
 ·have hq:=retQ2_ok e s s2 h2 hq
  cases e with
  | normal=>exact fin s a w' hq R'
  | ret=>exact fin s a w' hq R'
  | _=>exact hq.elim
theorem fn_slimT {f:FuncId} {fn:Func} {ac:ACode} {rs:List ARes} {sp:Spec} {pr:Bool} (hf:P.funcs[f]?=some fn) (hs:slimG pr P fn=some (ac,rs)) (hΦ:PhiOk P Φ)
  (h:∀ «as» hp r,sp «as» hp=some r→r.pre→«as».length≤fn.ntmps∧ZT Φ hp.length ac (retQ2 rs hp.length r) (ofS ⟨slots 0 «as»,hp⟩)):FnOk P f sp:=by
 unfold slimG at hs
 split at hs
 ·rename_i c hc
  split at hs
  ·rename_i ac' rs' h1 h2
   simp only [Option.some.injEq,Prod.mk.injEq] at hs
   obtain ⟨rfl,rfl⟩:=hs
   exact fnT_ok hf hc (slimC_ok h1) (all2_mapO (fun _ _=>slimR_ok) h2) hΦ h
  ·cases hs
 ·cases hs
end
end Go.Proofs.YtakolikdebfkeaaDoor
namespace Go.Proofs.YtakolikdebfkeaaDoor
open Go.RowKit
noncomputable def entryL (x:Int × List UInt8):List UInt8:=headL x.1.toNat x.2.length ++ zwrap x.2
noncomputable def plain0S:Spec:=fun xs hp=>match xs,hp with
 | [.agg [(1,.int .i64 k),(1,.sl 1 bs)]],[]=>some ⟨.own 0 (hdV (unB bs).length+1),[.row 5 1 (hdV (unB bs).length+1) (Bs (entryL (k,unB bs)))],bs=Bs (unB bs)∧1≤k∧k≤4∧(unB bs).length≤16777216⟩
 | _,_=>none
set_option maxRecDepth 8000 in
theorem plain0_ok:FnOk Tryd.prog 20 plain0S:=by
 refine fn_slim2 Tryd.func20 s_pplain (Φ:=phiL [(43,[],headS),(15,[],zwrapS)]) (phi_cons head_ok (by kernel_rfl) (phi_cons zwrap_ok (by kernel_rfl) phi_nil)) ?_
 intro xs hp r hs hp'
 unfold plain0S at hs
 split at hs
 ·rename_i k bs
  injection hs with hs; subst hs
  obtain ⟨h1,h2,h3,h4⟩:=hp'
  generalize unB bs=b at *
  subst h1
  refine ⟨len_le (by kernel_rfl),?_⟩
  have hk:okH k (b.length:Int)=true:=by unfold okH; rw [okN_mk (by omega) (by omega),decide_eq_true (show 0≤k∧k≤7 by omega)]; rfl
  simp only [c_pplain,r_pplain,headS,zwrapS,hk,if_true,unB_Bs,Bs_len,Int.toNat_natCast,← Bs_append,go_sem,reduceDiv,reduceMod,↓reduceIte,reduceEqDiff,Nat.reduceBEq,reduceSub,Nat.reduceLT,reduceAdd,reduceLeDiff,reduceCtorEq,Int.reduceEq,Int.reduceNe,Int.reduceLT,Int.reduceLE,Int.reduceToNat]
  have q1:=headL_len k.toNat (n:=b.length) (by omega)
  have q2:=zwrap_len b
  have q3:=dflL_len b
  exact ⟨⟨by rw [unB_Bs],rfl,by rw [unB_Bs]; omega⟩,⟨by simp only [lenOk,List.length_append]; omega,by simp only [bytesOk,List.length_append]; omega⟩,rfl⟩
 ·cases hs
noncomputable def plainS:Spec:=fun xs hp=>match xs,hp with
 | [.agg [(1,.int .i64 k),(1,.sl 1 bs)]],[]=>some ⟨.sl 1 (Bs (entryL (k,unB bs))),[],bs=Bs (unB bs)∧1≤k∧k≤4∧(unB bs).length≤16777216⟩
 | _,_=>none
theorem plain_ok:FnOk Tryd.prog 20 plainS:=plain0_ok.freezeD fun xs hp r' hs hp' => by
 unfold plainS at hs
 split at hs
 ·rename_i k bs
  injection hs with hs; subst hs
  exact ⟨rfl,_,rfl,hp',rfl,by simp [fzV,fzD],rfl,rfl⟩
 ·cases hs
def magicL:List UInt8:=[80,65,67,75,0,0,0,2]
def bodyL (n:Nat) (es:List (List UInt8)):List UInt8:=magicL ++ beL n 4 ++ es.flatten
noncomputable def packL (es:List (List UInt8)):List UInt8:=bodyL es.length es ++ sha (bodyL es.length es)
noncomputable def writtenS:Spec:=fun xs hp=>match xs,hp with
 | [.sl 1 es],[]=>some ⟨.own 0 (es.length+2),[.row 5 1 (es.length+2) (Bs (packL (es.map unSl)))],es=(es.map unSl).map slB∧es.length≤1000∧(es.map unSl).flatten.length≤1000000000⟩
 | _,_=>none
theorem sls_get (l:List (List UInt8)) {i:Nat} (h:i<l.length) (d:AV):(l.map slB).getD i d=.sl 1 (Bs (l.getD i [])):=by
 simp [List.getD_eq_getElem?_getD,h,slB]
theorem flat_take (l:List (List UInt8)) {i:Nat} (h:i<l.length):(l.take (i+1)).flatten=(l.take i).flatten ++ l.getD i []:=by
 rw [List.take_succ,List.getElem?_eq_getElem h,List.flatten_append]
 simp [List.getD_eq_getElem?_getD,h]
theorem flat_le (l:List (List UInt8)) (i:Nat):(l.take i).flatten.length≤l.flatten.length:=by
 conv=>rhs; rw [← List.take_append_drop i l,List.flatten_append,List.length_append]
 omega
theorem magic_len:magicL.length=8:=rfl
theorem body_len (n:Nat) (es:List (List UInt8)):(bodyL n es).length=12+es.flatten.length:=by
 unfold bodyL
 rw [List.length_append,List.length_append,magic_len,beL_len]
theorem unSls_map (l:List (List UInt8)):(l.map slB).map unSl=l:=by
 rw [List.map_map]
 conv=>rhs; rw [← List.map_id l]
 apply List.map_congr_left
 intro x _
 show unB (Bs x)=x
 exact unB_Bs x
set_option maxRecDepth 8000 in
theorem written_ok:FnOk Tryd.prog 21 writtenS:=by
 refine fn_slimT Tryd.func21 s_pwritten (Φ:=phiL [(44,[],beS),(45,[],sumS)]) (phi_cons be_ok (by kernel_rfl) (phi_cons sum_ok (by kernel_rfl) phi_nil)) ?_
 intro xs hp r hs hp'
 unfold writtenS at hs
 split at hs
 ·rename_i es
  injection hs with hs; subst hs
  obtain ⟨h1,h2,h3⟩:=hp'
  generalize es.map unSl=l at *
  subst h1
  rw [List.length_map] at h2 ⊢
  refine ⟨len_le (by kernel_rfl),?_⟩
  have hb:beK 4=4:=rfl
  have hw:IntKind.u64.wrap (l.length:Int)=(l.length:Int):=by
   simp only [IntKind.wrap,IntKind.signed,IntKind.bits]; simp; omega
  have hm:[AV.int .u8 80,.int .u8 65,.int .u8 67,.int .u8 75,.int .u8 0,.int .u8 0,.int .u8 0,.int .u8 2]=Bs magicL:=rfl
  have hbl:=body_len l.length (l.take 0)
  have hml:=magic_len
  have hbe:=beL_len l.length 4
  have e0:bodyL l.length (l.take 0)=magicL ++ beL l.length 4:=by unfold bodyL; simp
  refine .step ?_
  simp only [slots,go_sem,reduceDiv,reduceMod,↓reduceIte,reduceEqDiff,Nat.reduceBEq,reduceSub,Nat.reduceLT,reduceAdd,reduceLeDiff,reduceCtorEq,Int.reduceEq,Int.reduceNe,Int.reduceLT,Int.reduceLE,Int.reduceToNat]
  refine .step ?_
  simp only [beS,hb,hw,hm,List.length_map,Int.toNat_natCast,Bs_len,← Bs_append,go_sem,reduceDiv,reduceMod,↓reduceIte,reduceEqDiff,Nat.reduceBEq,reduceSub,Nat.reduceLT,reduceAdd,reduceLeDiff,reduceCtorEq,Int.reduceEq,Int.reduceNe,Int.reduceLT,Int.reduceLE,Int.reduceToNat]
  refine ⟨by simp only [lenOk]; omega,by omega,⟨by omega,by omega⟩,⟨by simp only [lenOk,List.length_append]; omega,by simp only [bytesOk,List.length_append]; omega⟩,?_⟩
  refine .step ?_
  simp only [List.length_map,← e0,go_sem,reduceDiv,reduceMod,↓reduceIte,reduceEqDiff,Nat.reduceBEq,reduceSub,Nat.reduceLT,reduceAdd,reduceLeDiff,reduceCtorEq,Int.reduceEq,Int.reduceNe,Int.reduceLT,Int.reduceLE,Int.reduceToNat]
  refine loop2P [] [3,14,15,16] [0] (fun i:Nat=>⟨[(3,.own 0 (1+i)),(14,.sl 1 (l.map slB)),(15,.int .i64 (l.length:Int)),(16,.int .i64 (i:Int))],[.row 5 1 (1+i) (Bs (bodyL l.length (l.take i)))]⟩) (fun i=>i≤l.length) (fun i=>l.length - i) 0 (by rfl) (Nat.zero_le _) ⟨rfl,by rfl⟩ (fun i hi R hR=>?_)
  have hbi:=body_len l.length (l.take i)
  have hfl:=flat_le l i
  by_cases hil:i<l.length
  ·have c1:decide ((i:Int)<(l.length:Int))=true:=decide_eq_true (by omega)
   have hg:=sls_get l hil (.con (.slice none 0 0))
   have hst:bodyL l.length (l.take i) ++ l.getD i []=bodyL l.length (l.take (i+1)):=by
    unfold bodyL
    rw [flat_take l hil]; simp only [List.append_assoc]
   have hbi2:=body_len l.length (l.take (i+1))
   have hfl2:=flat_le l (i+1)
   have hv:1+i+1=1+(i+1):=by omega
   simp only [b_pwritten_0,c1,hg,List.length_map,Int.toNat_natCast,Bs_len,← Bs_append,hst,hv,go_sem,reduceDiv,reduceMod,↓reduceIte,reduceEqDiff,Nat.reduceBEq,reduceSub,Nat.reduceLT,reduceAdd,reduceLeDiff,reduceCtorEq,Int.reduceEq,Int.reduceNe,Int.reduceLT,Int.reduceLE,Int.reduceToNat]
   exact ⟨⟨by omega,by omega⟩,⟨by simp only [lenOk]; omega,by simp only [bytesOk]; omega⟩,by (first | omega | (simp only [lenOk,bytesOk,inI,IntKind.bits,List.length_append,Bs_len,List.length_cons,List.length_nil,List.length_map,List.length_take,List.length_drop,List.length_replicate]; omega)),hR _ (i+1) (by omega) (by omega) rfl⟩
  ·have c1:decide ((i:Int)<(l.length:Int))=false:=decide_eq_false (by omega)
   obtain rfl:i=l.length:=by omega
   rw [List.take_length] at *
   simp only [b_pwritten_0,c1,List.length_map,go_sem,reduceDiv,reduceMod,↓reduceIte,reduceEqDiff,Nat.reduceBEq,reduceSub,Nat.reduceLT,reduceAdd,reduceLeDiff,reduceCtorEq,Int.reduceEq,Int.reduceNe,Int.reduceLT,Int.reduceLE,Int.reduceToNat]
   unfold t_pwritten_0
   refine .seq _ (.lend [0] [3,6] _ (by rfl) (by rfl) ?_) (fun _ h=>h)
   generalize hbody:bodyL l.length l=body at *
   have hsl:[AV.sl 1 (Bs body)]=List.map slB [body]:=rfl
   have hsu:unSl (slB body)=body:=unB_Bs body
   simp only [sumS,hsl,unSls_map,List.flatten_cons,List.flatten_nil,List.append_nil,hsu,go_sem,reduceDiv,reduceMod,↓reduceIte,reduceEqDiff,Nat.reduceBEq,reduceSub,Nat.reduceLT,reduceAdd,reduceLeDiff,reduceCtorEq,Int.reduceEq,Int.reduceNe,Int.reduceLT,Int.reduceLE,Int.reduceToNat]
   have hsh:(sha body).length=20:=by unfold sha; exact bytes_len _
   refine ⟨by omega,hsh,[],[0,2],⟨[(3,.own 0 (1+l.length)),(6,.ref 1 0 0)],[.froz 1 (1+l.length) (Bs body),.cells 49 [(20,.blob (List.map U (sha body)))]]⟩,by rfl,by rfl,by rfl,fun i hi=>?_,fun i o hi hn=>?_,fun n hn=>?_,?_⟩
   ·obtain rfl:i=0:=by simpa using hi
    rfl
   ·match i,hi with
    | 0,_=>exact absurd (by simp) hn
    | 1,hi =>
     simp only [List.getElem?_cons_succ,List.getElem?_cons_zero,Option.some.injEq] at hi
     subst hi
     exact ⟨rfl,trivial⟩
    | i+2,hi=>simp at hi
   ·simp only [List.mem_cons,List.not_mem_nil,or_false] at hn
    rcases hn with rfl | rfl <;> rfl
   ·refine .step ?_
    have hbU:List.map U (sha body)=List.map U (sha body):=rfl
    simp only [List.map_cons,List.map_nil,lk,thawH,go_sem,reduceDiv,reduceMod,↓reduceIte,reduceEqDiff,Nat.reduceBEq,reduceSub,Nat.reduceLT,reduceAdd,reduceLeDiff,reduceCtorEq,Int.reduceEq,Int.reduceNe,Int.reduceLT,Int.reduceLE,Int.reduceToNat]
    rw [← Bs_append,Bs_len]
    have hpk:body ++ sha body=packL l:=by unfold packL; rw [hbody]
    have hpl:(body ++ sha body).length=body.length+20:=by rw [List.length_append,hsh]
    refine ⟨by simp only [lenOk]; omega,⟨by simp only [lenOk]; omega,by simp only [bytesOk]; omega⟩,.fin ?_⟩
    have hv:1+l.length+1=l.length+2:=by omega
    rw [hpk,hv]
    simp only [r_pwritten,go_sem,reduceDiv,reduceMod,↓reduceIte,reduceEqDiff,Nat.reduceBEq,reduceSub,Nat.reduceLT,reduceAdd,reduceLeDiff,reduceCtorEq,Int.reduceEq,Int.reduceNe,Int.reduceLT,Int.reduceLE,Int.reduceToNat]
 ·cases hs
end Go.Proofs.YtakolikdebfkeaaDoor
namespace Go.Proofs.YtakolikdebfkeaaDoor
open Go.RowKit
def shortB (l:List (Int × List UInt8)):Prop:=l.length≤100∧∀ x∈l,x.2.length≤10000
theorem wordL_pos {k:Int} (h:wordL k≠[]):1≤k∧k≤4:=by
 unfold wordL at h
 repeat' split at h
 all_goals first | omega | exact absurd rfl h
theorem entry_len (x:Int × List UInt8) (h:x.2.length≤10000):(entryL x).length≤60021:=by
 unfold entryL
 have q1:=headL_len x.1.toNat (n:=x.2.length) (by omega)
 have q2:=zwrap_len x.2
 have q3:=dflL_len x.2
 rw [List.length_append]; omega
theorem entries_len:∀ (l:List (Int × List UInt8)),(∀ x∈l,x.2.length≤10000)→(l.map entryL).flatten.length≤60021 * l.length
 | [],_=>by simp
 | x :: r,h=>by
  have h1:=entry_len x (h x (by simp))
  have h2:=entries_len r fun y hy=>h y (by simp [hy])
  rw [List.map_cons,List.flatten_cons,List.length_append,List.length_cons]; omega
theorem slB_take (l:List (Int × List UInt8)) {i:Nat} (h:i<l.length):((l.take (i+1)).map fun x=>slB (entryL x))=((l.take i).map fun x=>slB (entryL x)) ++ [slB (entryL (l.getD i (0,[])))]:=by
 rw [List.take_succ,List.getElem?_eq_getElem h,List.map_append]
 simp [List.getD_eq_getElem?_getD,h]
theorem any_long (l:List (Int × List UInt8)) (h:∀ x∈l,x.2.length≤10000):l.any longB=false:=by
 cases hb:l.any longB with
 | false=>rfl
 | true =>
  obtain ⟨x,hx,hl⟩:=List.any_eq_true.1 hb
  unfold longB at hl
  have:=h x hx
  have:=of_decide_eq_true hl
  omega
theorem unSl_map (l:List (Int × List UInt8)):(l.map fun x=>slB (entryL x)).map unSl=l.map entryL:=by
 rw [List.map_map]
 apply List.map_congr_left
 intro x _
 show unB (Bs (entryL x))=entryL x
 exact unB_Bs _
theorem flat_Bk (l:List UInt8):∀ x,x∈Bs l→flatB 4 x=true:=by
 intro x hx
 unfold Bs at hx
 obtain ⟨b,_,rfl⟩:=List.mem_map.1 hx
 rfl
noncomputable def packO (l:List (Int × List UInt8)):List UInt8:=packL (l.map entryL)
noncomputable def pwriteS:Spec:=fun xs hp=>match xs,hp with
 | [.sl 1 []],[]=>some ⟨.tup [.own 0 2,.int .i64 0],[.row 5 1 2 (Bs (packO []))],True⟩
 | [.sl 2 ts],[]=>some ⟨.tup [.own 0 ((unIts ts).length+2),.int .i64 0],[.row 5 1 ((unIts ts).length+2) (Bs (packO (unIts ts)))],ts=(unIts ts).map itV∧allW (unIts ts)=true∧shortB (unIts ts)⟩
 | _,_=>none
set_option maxRecDepth 8000 in
theorem pwrite_ok:FnOk Tryd.prog 9 pwriteS:=by
 refine fn_slim2 Tryd.func9 s_pwrite (Φ:=phiL [(19,[],prightS),(20,[],plainS),(21,[],writtenS)]) (phi_cons pright_ok (by kernel_rfl) (phi_cons plain_ok (by kernel_rfl) (phi_cons written_ok (by kernel_rfl) phi_nil))) ?_
 intro xs hp r hs hp'
 unfold pwriteS at hs
 split at hs
 ·injection hs with hs; subst hs
  refine ⟨len_le (by kernel_rfl),?_⟩
  simp only [c_pwrite,prightS,go_sem,reduceDiv,reduceMod,↓reduceIte,reduceEqDiff,Nat.reduceBEq,reduceSub,Nat.reduceLT,reduceAdd,reduceLeDiff,reduceCtorEq,Int.reduceEq,Int.reduceNe,Int.reduceLT,Int.reduceLE,Int.reduceToNat]
  refine loop2P [(5,27,1)] [5,13,14,15] [0] (fun _:Unit=>⟨[(5,.own 0 0),(13,.sl 1 []),(14,.int .i64 0),(15,.int .i64 0)],[.row 27 1 0 []]⟩) (fun _=>True) (fun _=>0) () (by rfl) trivial ⟨rfl,by rfl⟩ (fun _ _ R hR=>?_)
  have c0:decide ((0:Int)<0)=false:=rfl
  simp only [b_pwrite_0,t_pwrite_0,r_pwrite,writtenS,c0,go_sem,reduceDiv,reduceMod,↓reduceIte,reduceEqDiff,Nat.reduceBEq,reduceSub,Nat.reduceLT,reduceAdd,reduceLeDiff,reduceCtorEq,Int.reduceEq,Int.reduceNe,Int.reduceLT,Int.reduceLE,Int.reduceToNat]
  refine ⟨?_,?_⟩
  ·exact flat_Bk _
  ·rfl
 ·rename_i ts
  injection hs with hs; subst hs
  obtain ⟨h1,h2,h3,h4⟩:=hp'
  generalize unIts ts=l at *
  subst h1
  have hal:=any_long l h4
  have hu:=unIts_it l
  have hno:¬ (allW l=false∨l.any longB=true):=by rw [h2,hal]; decide
  refine ⟨len_le (by kernel_rfl),?_⟩
  simp only [c_pwrite,prightS,hu,hno,if_false,List.length_map,go_sem,reduceDiv,reduceMod,↓reduceIte,reduceEqDiff,Nat.reduceBEq,reduceSub,Nat.reduceLT,reduceAdd,reduceLeDiff,reduceCtorEq,Int.reduceEq,Int.reduceNe,Int.reduceLT,Int.reduceLE,Int.reduceToNat]
  refine ⟨by omega,?_⟩
  refine loop2P [(5,27,1)] [5,13,14,15] [0] (fun i:Nat=>⟨[(5,.own 0 i),(13,.sl 2 (l.map itV)),(14,.int .i64 (l.length:Int)),(15,.int .i64 (i:Int))],[.row 27 1 i ((l.take i).map fun x=>slB (entryL x))]⟩) (fun i=>i≤l.length) (fun i=>l.length - i) 0 (by rfl) (Nat.zero_le _) ⟨rfl,by rfl⟩ (fun i hi R hR=>?_)
  by_cases hil:i<l.length
  ·have c1:decide ((i:Int)<(l.length:Int))=true:=decide_eq_true (by omega)
   have hg:=its_get l hil (.agg [(1,.int .i64 0),(1,.con (.slice none 0 0))])
   have hm:l.getD i (0,[])∈l:=by rw [List.getD_eq_getElem?_getD,List.getElem?_eq_getElem hil]; exact List.getElem_mem hil
   have hw:wordL (l.getD i (0,[])).1≠[]:=fun h=>by
    have:=List.all_eq_true.1 h2 _ hm
    rw [decide_eq_true h] at this
    cases this
   have hk:=wordL_pos hw
   have hlen:=h4 _ hm
   have hst:=slB_take l hil
   generalize hx:l.getD i (0,[])=x at *
   obtain ⟨k,b⟩:=x
   simp only at hk hlen
   simp only [b_pwrite_0,plainS,c1,hg,itV,unB_Bs,List.length_map,Int.toNat_natCast,Bs_len,go_sem,reduceDiv,reduceMod,↓reduceIte,reduceEqDiff,Nat.reduceBEq,reduceSub,Nat.reduceLT,reduceAdd,reduceLeDiff,reduceCtorEq,Int.reduceEq,Int.reduceNe,Int.reduceLT,Int.reduceLE,Int.reduceToNat]
   have hst2:(List.map (fun x=>slB (entryL x)) (List.take i l) ++ [AV.sl 1 (Bs (entryL (k,b)))])=((l.take (i+1)).map fun x=>slB (entryL x)):=hst.symm
   rw [hst2,List.length_map,List.length_take]
   exact ⟨⟨by omega,by omega⟩,⟨by omega,by omega,by omega⟩,⟨by simp only [lenOk]; omega,by simp only [bytesOk]; omega⟩,by (first | omega | (simp only [lenOk,bytesOk,inI,IntKind.bits,List.length_append,Bs_len,List.length_cons,List.length_nil,List.length_map,List.length_take,List.length_drop,List.length_replicate]; omega)),hR _ (i+1) (by omega) (by omega) rfl⟩
  ·have c1:decide ((i:Int)<(l.length:Int))=false:=decide_eq_false (by omega)
   obtain rfl:i=l.length:=by omega
   rw [List.take_length] at *
   have hu2:=unSl_map l
   simp only [b_pwrite_0,t_pwrite_0,r_pwrite,writtenS,c1,hu2,List.length_map,go_sem,reduceDiv,reduceMod,↓reduceIte,reduceEqDiff,Nat.reduceBEq,reduceSub,Nat.reduceLT,reduceAdd,reduceLeDiff,reduceCtorEq,Int.reduceEq,Int.reduceNe,Int.reduceLT,Int.reduceLE,Int.reduceToNat]
   have hen:=entries_len l h4
   refine ⟨⟨⟨by rw [List.map_map]; rfl,by omega,by omega⟩,flat_Bk _⟩,?_⟩
   rfl
 ·cases hs
end Go.Proofs.YtakolikdebfkeaaDoor
namespace Go.Proofs.YtakolikdebfkeaaDoor
open Go.RowKit
theorem wrap64k {n:Nat} (h:n<18446744073709551616):IntKind.u64.wrap (n:Int)=(n:Int):=by rw [IntKind.wrap_u64]; omega
def b_fbe_0:ACode:=(.seq (.reg none [oS 14 (.bin .lss (.t 13) (.t 12))]) (.seq (.cond (.t 14) .skip (.exit 0)) (.seq (.block 1 (.seq (.reg none [oS 15 (.ia 1 (.int .u8 0) (.t 11) (.t 13)),oS 16 (.ld (.one (.int .u8 0)) (.t 15)),oS 5 (.mv (.t 16))]) (.reg none [oS 17 (.mv (.t 3)),oS 18 (.bin .shl (.t 17) (.c (.int .u64 8))),oS 19 (.mv (.t 5)),oS 20 (.toInt .u64 (.t 19)),oS 21 (.bin .or (.t 18) (.t 20)),oS 3 (.mv (.t 21))]))) (.reg none [oS 22 (.bin .add (.t 13) (.c (.int .i64 1))),oS 13 (.mv (.t 22))]))))
def t_fbe_0:ACode:=(.seq (.reg none [oS 23 (.mv (.t 3)),oS 2 (.mv (.t 23))]) .ret)
def c_fbe:ACode:=(.seq (.reg none [oS 2 (.mv (.c (.int .u64 0)))]) (.seq (.reg none [oS 3 (.mv (.c (.int .u64 0)))]) (.seq (.seq (.reg none [oS 6 (.mv (.t 0)),oS 7 (.mv (.t 0)),oS 8 (.len none false (.t 7)),oS 9 (.bin .sub (.t 8) (.c (.int .i64 8))),oS 10 (.mm true (.c (.int .i64 0)) (.t 9)),oS 11 (.sl 1 (.t 6) (some (.t 10)) none),oS 12 (.len none false (.t 11)),oS 13 (.mv (.c (.int .i64 0)))]) (.block 0 (.loop b_fbe_0))) t_fbe_0)))
def r_fbe:List ARes:=[(.t 2)]
theorem s_fbe:slimF Tryd.prog Tryd.f57=some (c_fbe,r_fbe):=by kernel_rfl
theorem beN_lt (l:List UInt8):beN l 0<256 ^ l.length:=by
 have gen:∀ (l:List UInt8) (a k:Nat),a<256 ^ k→beN l a<256 ^ (k+l.length):=by
  intro l
  induction l with
  | nil=>intro a k h; exact h
  | cons u l ih =>
   intro a k h
   have hu:=u.toNat_lt
   have:=ih (a * 256+u.toNat) (k+1) (by rw [Nat.pow_succ]; omega)
   rw [List.length_cons,show k+(l.length+1)=k+1+l.length by omega]; exact this
 have:=gen l 0 0 (by simp)
 rwa [Nat.zero_add] at this
theorem beN_step (t:List UInt8) (i:Nat) (h:i<t.length):beN (t.take (i+1)) 0=beN (t.take i) 0 * 256+(t.getD i 0).toNat:=by
 have e:t.take (i+1)=t.take i ++ [t.getD i 0]:=by
  rw [List.take_succ,List.getD_eq_getElem?_getD,List.getElem?_eq_getElem h]; rfl
 rw [e,beN_append]; rfl
noncomputable def beV:List UInt8→Nat:=sealF fun l=>beN (l.drop (l.length - 8)) 0
noncomputable def fbeS:Spec:=fun xs hp=>match xs,hp with
 | [.sl 1 bs],[]=>some ⟨.int .u64 (beV (unB bs):Int),[],bs=Bs (unB bs)∧bs.length≤1000000000000⟩
 | _,_=>none
theorem or_8 (a b:Nat) (ha:a<72057594037927936) (hb:b<256):bits .or .u64 (IntKind.u64.wrap ((a:Int) * 2 ^ (8:Int).toNat)) (b:Int)=((a * 256+b:Nat):Int):=by
 have e:(a:Int) * 2 ^ (8:Int).toNat=((a * 256:Nat):Int):=by rw [show (2:Int) ^ (8:Int).toNat=256 from rfl]; omega
 rw [e,wrap64k (by omega),u64_or_nat _ _ (by omega) (by omega),nat_join 8 (a * 256) b (by omega) (by omega)]
theorem fbe_ok:FnOk Tryd.prog 57 fbeS:=by
 refine fn_slim Tryd.func57 s_fbe (Φ:=phiL []) phi_nil ?_
 intro xs hp r hs hp'
 unfold fbeS at hs
 split at hs
 ·injection hs with hs; subst hs
  rename_i bs
  refine ⟨len_le (by kernel_rfl),?_⟩
  obtain ⟨p1,p2⟩:=hp'
  generalize unB bs=l at *
  subst p1
  rw [Bs_len] at p2
  have hv:beV l=beN (l.drop (l.length - 8)) 0:=by unfold beV; rw [sealF_eq]
  have em:max 0 ((l.length:Int) - 8)=((l.length - 8:Nat):Int):=by omega
  have ht:(l.drop (l.length - 8)).length≤8:=by rw [List.length_drop]; omega
  have ht2:l.length - (l.length - 8)=(l.drop (l.length - 8)).length:=by rw [List.length_drop]
  have htk:(l.take l.length).drop (l.length - 8)=l.drop (l.length - 8):=by rw [List.take_length]
  rw [hv]
  simp only [c_fbe,Bs_len,em,Int.toNat_natCast,← Bs_take,← Bs_drop,htk,awp_scope,noG_n,noG_r,noG_x,awp_skip,awp_reg,awp_draw,awp_seq,awp_cond,awp_block,awp_loop,awp_exit,awp_ret,arun_nil,arun_op,arun_gt,arun_gf,arunD_nil,arunD_op,arunD_gt,arunD_gf,aq_some,isB_t,isB_u,isB_f,isB_g,isB_p,isU_t,isU_b,ifB_t,ifB_f,thenQ_n,thenQ_x,thenQ_r,inQ_n,inQ_r,inQ_x,retQ_n,retQ_r,exD,AOp.isH,keepN,preB,avalP,pureR,astep,stV,stN,stE,stC,aval,anew,aElems,frzS,frzH,aeff,slots,aret,ares,aress,AV.isTup,eqFs,aEqS,ofC_i,ofC_b,ofC_s,ofC_U,getD_mapU,getD_Bs,Bs_len,Int.toNat_natCast,opd,pt,tk,subp,rdP,Rt.size,Rt.isAgg,Rt.zv,aBin,aInt,aStr,arI,aUn,aToInt,aToStr,aIdxS,zv,aIdxA,aIa,aIaA,aFa,aLd,aFld,pparts,aLo,aHi,cutL,aSlS,aSl,aExt,aNck,aNilc,AV.isStr,aLen,AV.one,AV.multi,pureB,szOk,psz,drp,spl,aEqB,aEqA,aMm,aMkfn,aMkif,aBuild,toV,aBuildA,wrP,unparts,view,nilS,St.ev,lk,St.put,St.pin,St.pinV,acall0,acall1,acall2,acall3,bor,bor0,bor1,phiL_nil,phiL_at,tau,lentO,okIds,flatC,flatB,flatOs,flatO,flatPs,place,setAll_nil,setAll_cons,nodupB,renObj,closeIds,addNew,idsOf,idsObj,posOf,lenOk_0,lenOk_1,lenOk_2,lenOk_3,lenOk_4,lenOk_8,↓reduceIte,Option.isSome_none,Option.isSome_some,Bool.or_true,Bool.true_or, reduceEqDiff,Nat.reduceBEq,reduceSub,Nat.reduceLT,beq_self_eq_true,List.map,List.set,List.map_cons,List.map_nil,List.flatMap_cons,List.flatMap_nil,List.flatten_cons,List.flatten_nil,true_and,and_true,List.length_cons,List.length_nil,reduceAdd,reduceLeDiff,List.nil_append,List.cons_append,List.append_nil,Option.map,mapO,ren,kp,kpI,ent,nilG,Option.bind,List.range,List.range.loop,List.getElem?_cons_zero,List.getElem?_cons_succ,List.getElem?_nil,List.getD_cons_zero,List.getD_cons_succ,List.drop_zero,List.drop_succ_cons,List.drop_nil,List.take_zero,List.take_succ_cons,List.all_cons,List.all_nil,List.isEmpty_nil,List.isEmpty_cons,Bool.and_true,Bool.true_and,Bool.not_true,Bool.not_false,List.contains_nil,reduceCtorEq,List.contains_cons,Bool.or_false,Bool.false_or,eq_self,forall_const,false_implies,Bool.false_eq_true,Nat.le_refl,List.length_map,List.length_set,List.length_replicate,and_self,implies_true]
  generalize hT:l.drop (l.length - 8)=t at *
  refine ⟨by (first | omega | (simp only [lenOk,bytesOk,inI,IntKind.bits,List.length_append,Bs_len,List.length_cons,List.length_nil,List.length_map,List.length_take,List.length_drop,List.length_replicate]; omega)),⟨by omega,by omega,by omega⟩,?_⟩
  have pw:∀ i:Nat,i<8→beN (t.take i) 0<72057594037927936:=fun i hi=>by
   have h1:=beN_lt (t.take i)
   have h2:(256:Nat) ^ (t.take i).length≤256 ^ 7:=Nat.pow_le_pow_right (by omega) (by rw [List.length_take]; omega)
   omega
  refine loop_at [] [3,11,12,13] [] (fun i:Nat=>⟨[(3,.int .u64 (beN (t.take i) 0:Int)),(11,.sl 1 (Bs t)),(12,.int .i64 (t.length:Int)),(13,.int .i64 (i:Int))],[]⟩) (fun i=>i≤t.length) (fun i=>t.length - i) 0 rfl (by simp) ⟨rfl,rfl⟩ (fun i ha=>?_)
  by_cases hi:i<t.length
  ·have c1:decide ((i:Int)<(t.length:Int))=true:=decide_eq_true (by omega)
   have hb:=beN_step t i hi
   have hu:=(t.getD i 0).toNat_lt
   have hw:=pw i (by omega)
   simp only [b_fbe_0,c1,wrap64k (show (t.getD i 0).toNat<18446744073709551616 by omega),or_8 _ _ hw hu,← hb,awp_scope,noG_n,noG_r,noG_x,awp_skip,awp_reg,awp_draw,awp_seq,awp_cond,awp_block,awp_loop,awp_exit,awp_ret,arun_nil,arun_op,arun_gt,arun_gf,arunD_nil,arunD_op,arunD_gt,arunD_gf,aq_some,isB_t,isB_u,isB_f,isB_g,isB_p,isU_t,isU_b,ifB_t,ifB_f,thenQ_n,thenQ_x,thenQ_r,inQ_n,inQ_r,inQ_x,retQ_n,retQ_r,exD,AOp.isH,keepN,preB,avalP,pureR,astep,stV,stN,stE,stC,aval,anew,aElems,frzS,frzH,aeff,slots,aret,ares,aress,AV.isTup,eqFs,aEqS,ofC_i,ofC_b,ofC_s,ofC_U,getD_mapU,getD_Bs,Bs_len,Int.toNat_natCast,opd,pt,tk,subp,rdP,Rt.size,Rt.isAgg,Rt.zv,aBin,aInt,aStr,arI,aUn,aToInt,aToStr,aIdxS,zv,aIdxA,aIa,aIaA,aFa,aLd,aFld,pparts,aLo,aHi,cutL,aSlS,aSl,aExt,aNck,aNilc,AV.isStr,aLen,AV.one,AV.multi,pureB,szOk,psz,drp,spl,aEqB,aEqA,aMm,aMkfn,aMkif,aBuild,toV,aBuildA,wrP,unparts,view,nilS,St.ev,lk,St.put,St.pin,St.pinV,acall0,acall1,acall2,acall3,bor,bor0,bor1,phiL_nil,phiL_at,tau,lentO,okIds,flatC,flatB,flatOs,flatO,flatPs,place,setAll_nil,setAll_cons,nodupB,renObj,closeIds,addNew,idsOf,idsObj,posOf,lenOk_0,lenOk_1,lenOk_2,lenOk_3,lenOk_4,lenOk_8,↓reduceIte,Option.isSome_none,Option.isSome_some,Bool.or_true,Bool.true_or, reduceEqDiff,Nat.reduceBEq,reduceSub,Nat.reduceLT,beq_self_eq_true,List.map,List.set,List.map_cons,List.map_nil,List.flatMap_cons,List.flatMap_nil,List.flatten_cons,List.flatten_nil,true_and,and_true,List.length_cons,List.length_nil,reduceAdd,reduceLeDiff,List.nil_append,List.cons_append,List.append_nil,Option.map,mapO,ren,kp,kpI,ent,nilG,Option.bind,List.range,List.range.loop,List.getElem?_cons_zero,List.getElem?_cons_succ,List.getElem?_nil,List.getD_cons_zero,List.getD_cons_succ,List.drop_zero,List.drop_succ_cons,List.drop_nil,List.take_zero,List.take_succ_cons,List.all_cons,List.all_nil,List.isEmpty_nil,List.isEmpty_cons,Bool.and_true,Bool.true_and,Bool.not_true,Bool.not_false,List.contains_nil,reduceCtorEq,List.contains_cons,Bool.or_false,Bool.false_or,eq_self,forall_const,false_implies,Bool.false_eq_true,Nat.le_refl,List.length_map,List.length_set,List.length_replicate,and_self,implies_true]
   exact ⟨⟨by omega,by omega⟩,by omega,by (first | omega | (simp only [lenOk,bytesOk,inI,IntKind.bits,List.length_append,Bs_len,List.length_cons,List.length_nil,List.length_map,List.length_take,List.length_drop,List.length_replicate]; omega)),i+1,by omega,by omega,by simp⟩
  ·have c1:decide ((i:Int)<(t.length:Int))=false:=decide_eq_false (by omega)
   have:i=t.length:=by omega
   subst this
   rw [List.take_length]
   simp only [b_fbe_0,t_fbe_0,r_fbe,c1,awp_scope,noG_n,noG_r,noG_x,awp_skip,awp_reg,awp_draw,awp_seq,awp_cond,awp_block,awp_loop,awp_exit,awp_ret,arun_nil,arun_op,arun_gt,arun_gf,arunD_nil,arunD_op,arunD_gt,arunD_gf,aq_some,isB_t,isB_u,isB_f,isB_g,isB_p,isU_t,isU_b,ifB_t,ifB_f,thenQ_n,thenQ_x,thenQ_r,inQ_n,inQ_r,inQ_x,retQ_n,retQ_r,exD,AOp.isH,keepN,preB,avalP,pureR,astep,stV,stN,stE,stC,aval,anew,aElems,frzS,frzH,aeff,slots,aret,ares,aress,AV.isTup,eqFs,aEqS,ofC_i,ofC_b,ofC_s,ofC_U,getD_mapU,getD_Bs,Bs_len,Int.toNat_natCast,opd,pt,tk,subp,rdP,Rt.size,Rt.isAgg,Rt.zv,aBin,aInt,aStr,arI,aUn,aToInt,aToStr,aIdxS,zv,aIdxA,aIa,aIaA,aFa,aLd,aFld,pparts,aLo,aHi,cutL,aSlS,aSl,aExt,aNck,aNilc,AV.isStr,aLen,AV.one,AV.multi,pureB,szOk,psz,drp,spl,aEqB,aEqA,aMm,aMkfn,aMkif,aBuild,toV,aBuildA,wrP,unparts,view,nilS,St.ev,lk,St.put,St.pin,St.pinV,acall0,acall1,acall2,acall3,bor,bor0,bor1,phiL_nil,phiL_at,tau,lentO,okIds,flatC,flatB,flatOs,flatO,flatPs,place,setAll_nil,setAll_cons,nodupB,renObj,closeIds,addNew,idsOf,idsObj,posOf,lenOk_0,lenOk_1,lenOk_2,lenOk_3,lenOk_4,lenOk_8,↓reduceIte,Option.isSome_none,Option.isSome_some,Bool.or_true,Bool.true_or, reduceEqDiff,Nat.reduceBEq,reduceSub,Nat.reduceLT,beq_self_eq_true,List.map,List.set,List.map_cons,List.map_nil,List.flatMap_cons,List.flatMap_nil,List.flatten_cons,List.flatten_nil,true_and,and_true,List.length_cons,List.length_nil,reduceAdd,reduceLeDiff,List.nil_append,List.cons_append,List.append_nil,Option.map,mapO,ren,kp,kpI,ent,nilG,Option.bind,List.range,List.range.loop,List.getElem?_cons_zero,List.getElem?_cons_succ,List.getElem?_nil,List.getD_cons_zero,List.getD_cons_succ,List.drop_zero,List.drop_succ_cons,List.drop_nil,List.take_zero,List.take_succ_cons,List.all_cons,List.all_nil,List.isEmpty_nil,List.isEmpty_cons,Bool.and_true,Bool.true_and,Bool.not_true,Bool.not_false,List.contains_nil,reduceCtorEq,List.contains_cons,Bool.or_false,Bool.false_or,eq_self,forall_const,false_implies,Bool.false_eq_true,Nat.le_refl,List.length_map,List.length_set,List.length_replicate,and_self,implies_true]
   simp only [Bool.false_eq_true,renObj,finP,finI,closeIds,addNew,idsOf,List.flatMap_nil,List.flatMap_cons,List.append_nil,List.nil_append,List.take_zero,nodupB,posOf,idsObj,List.getD_cons_zero,List.getD_cons_succ,List.range,List.range.loop,ren,lentO,mapO,Option.map,↓reduceIte,reduceEqDiff,true_and,and_true,List.getElem?_cons_zero,List.getElem?_cons_succ,reduceAdd,List.contains_nil,Bool.not_false,Bool.and_true,List.map_nil,List.map_cons,List.take_succ_cons]
 ·cases hs
end Go.Proofs.YtakolikdebfkeaaDoor
namespace Go.Proofs.YtakolikdebfkeaaDoor
open Go.RowKit
def pack0L:List UInt8:=[80,65,67,75,0,0,0,2,0,0,0,0,2,157,8,130,59,216,168,234,181,16,173,106,199,92,130,60,253,62,211,30]
theorem beL_0:beL 0 4=[0,0,0,0]:=by kernel_rfl
def body0:List UInt8:=[80,65,67,75,0,0,0,2,0,0,0,0]
def sum0:List UInt8:=[2,157,8,130,59,216,168,234,181,16,173,106,199,92,130,60,253,62,211,30]
theorem sha0:sha body0=sum0:=by kernel_rfl
theorem pack0:packO []=pack0L:=by
 have e:bodyL 0 []=[80,65,67,75,0,0,0,2,0,0,0,0]:=by unfold bodyL; rw [beL_0]; rfl
 have h:sha [80,65,67,75,0,0,0,2,0,0,0,0]=[2,157,8,130,59,216,168,234,181,16,173,106,199,92,130,60,253,62,211,30]:=by kernel_rfl
 unfold packO packL
 rw [List.map_nil,List.length_nil,e,h]; rfl
def rdrV:List (Nat × AV):=[(1,.sl 1 (Bs (pack0L.take 12))),(1,.int .i64 12),(1,.con (.slice none 0 0)),(1,.mpv 1),(1,.mpv 2),(1,.con (.slice none 0 0))]
noncomputable def pread0S:Spec:=fun xs hp=>match xs,hp with
 | [.sl 1 bs],[]=>some ⟨.tup [.ref 0 0 0,.int .i64 0],[.cells 76 rdrV,.mp (.i .i64) [],.mp (.a 20) []],bs=Bs pack0L⟩
 | _,_=>none
set_option maxRecDepth 8000 in
theorem pread0_ok:FnOk Tryd.prog 35 pread0S:=by
 refine fn_slim2 Tryd.func35 s_pread0 (Φ:=phiL [(57,[],fbeS),(45,[],sumS)]) (phi_cons fbe_ok (by kernel_rfl) (phi_cons sum_ok (by kernel_rfl) phi_nil)) ?_
 intro xs hp r hs hp'
 unfold pread0S at hs
 split at hs
 ·injection hs with hs; subst hs
  rename_i bs
  have h1:bs=Bs pack0L:=hp'
  subst h1
  refine ⟨len_le (by kernel_rfl),?_⟩
  have l0:pack0L.length=32:=rfl
  have t8:(Bs pack0L).take 8=Bs magicL:=rfl
  have c8:decide (magicL=[80,65,67,75,0,0,0,2])=true:=rfl
  have t12:(Bs pack0L).take 12=Bs body0:=rfl
  have d8:(Bs body0).drop 8=Bs [0,0,0,0]:=rfl
  have d12:(Bs pack0L).drop 12=Bs sum0:=rfl
  have tk:(Bs pack0L).take 32=Bs pack0L:=rfl
  have hv:beV [0,0,0,0]=0:=by unfold beV; rw [sealF_eq]; rfl
  have hsl:[AV.sl 1 (Bs body0)]=List.map slB [body0]:=rfl
  have hsu:unSl (slB body0)=body0:=unB_Bs _
  have hl1:body0.length=12:=rfl
  have hl2:sum0.length=20:=rfl
  have w0:IntKind.i64.wrap 0=0:=by decide
  have e32:(32:Int) - 20=12:=by decide
  have t20:(Bs sum0).take 20=Bs sum0:=rfl
  have cU:decide (sum0=sum0)=true:=rfl
  simp only [c_pread0,fbeS,sumS,Bs_len,l0,t8,c8,t12,d8,d12,tk,hv,hsl,unSls_map,List.flatten_cons,List.flatten_nil,List.append_nil,hsu,unB_Bs,hl1,hl2,sha0,w0,e32,t20,cU,unV_U,go_sem,reduceDiv,reduceMod,↓reduceIte,reduceEqDiff,Nat.reduceBEq,reduceSub,Nat.reduceLT,reduceAdd,reduceLeDiff,reduceCtorEq,Int.reduceEq,Int.reduceNe,Int.reduceLT,Int.reduceLE,Int.reduceToNat]
  refine ⟨by (first | omega | (simp only [lenOk,bytesOk,inI,IntKind.bits,List.length_append,Bs_len,List.length_cons,List.length_nil,List.length_map,List.length_take,List.length_drop,List.length_replicate]; omega)),by (first | omega | (simp only [lenOk,bytesOk,inI,IntKind.bits,List.length_append,Bs_len,List.length_cons,List.length_nil,List.length_map,List.length_take,List.length_drop,List.length_replicate]; omega)),?_⟩
  refine loop2P [] [5,6,43,44] [3,1,2] (fun _:Unit=>⟨[(5,.int .i64 12),(6,.ref 0 0 0),(43,.int .i64 0),(44,.int .i64 0)],[.cells 76 rdrV,.mp (.i .i64) [],.mp (.a 20) []]⟩) (fun _=>True) (fun _=>0) () (by rfl) trivial ⟨rfl,by rfl⟩ (fun _ _ R hR=>?_)
  have c0:decide ((0:Int)<0)=false:=rfl
  have c12:decide ((12:Int)<12)=false:=rfl
  simp only [b_pread0_0,t_pread0_0,r_pread0,rdrV,c0,c12,go_sem,reduceDiv,reduceMod,↓reduceIte,reduceEqDiff,Nat.reduceBEq,reduceSub,Nat.reduceLT,reduceAdd,reduceLeDiff,reduceCtorEq,Int.reduceEq,Int.reduceNe,Int.reduceLT,Int.reduceLE,Int.reduceToNat]
 ·cases hs
noncomputable def preadS:Spec:=fun xs hp=>match xs,hp with
 | [.sl 1 bs],[]=>some ⟨.tup [.con (.slice none 0 0),.int .i64 0],[],bs=Bs pack0L⟩
 | _,_=>none
set_option maxRecDepth 8000 in
theorem pread_ok:FnOk Tryd.prog 17 preadS:=by
 refine fn_slim2 Tryd.func17 s_pread (Φ:=phiL [(35,[],pread0S)]) (phi_cons pread0_ok (by kernel_rfl) phi_nil) ?_
 intro xs hp r hs hp'
 unfold preadS at hs
 split at hs
 ·injection hs with hs; subst hs
  rename_i bs
  have h1:bs=Bs pack0L:=hp'
  subst h1
  refine ⟨len_le (by kernel_rfl),?_⟩
  simp only [c_pread,r_pread,pread0S,rdrV,go_sem,reduceDiv,reduceMod,↓reduceIte,reduceEqDiff,Nat.reduceBEq,reduceSub,Nat.reduceLT,reduceAdd,reduceLeDiff,reduceCtorEq,Int.reduceEq,Int.reduceNe,Int.reduceLT,Int.reduceLE,Int.reduceToNat]
 ·cases hs
def psoundS:Spec:=fun xs hp=>match xs,hp with
 | [.sl 1 []],[]=>some ⟨.int .i64 (-1),[],True⟩
 | _,_=>none
set_option maxRecDepth 8000 in
theorem psound_ok:FnOk Tryd.prog 36 psoundS:=by
 refine fn_slim2 Tryd.func36 s_psound (Φ:=phiL []) phi_nil ?_
 intro xs hp r hs hp'
 unfold psoundS at hs
 split at hs
 ·injection hs with hs; subst hs
  refine ⟨len_le (by kernel_rfl),?_⟩
  simp only [c_psound,r_psound,go_sem,reduceDiv,reduceMod,↓reduceIte,reduceEqDiff,Nat.reduceBEq,reduceSub,Nat.reduceLT,reduceAdd,reduceLeDiff,reduceCtorEq,Int.reduceEq,Int.reduceNe,Int.reduceLT,Int.reduceLE,Int.reduceToNat]
 ·cases hs
def pfindS:Spec:=fun xs hp=>match xs,hp with
 | [.sl 1 [],.blob cs],[]=>some ⟨.tup [.int .i64 0,.int .i64 4],[],cs.length=20⟩
 | _,_=>none
set_option maxRecDepth 8000 in
theorem pfind_ok:FnOk Tryd.prog 18 pfindS:=by
 refine fn_slim2 Tryd.func18 s_pfind (Φ:=phiL [(36,[],psoundS)]) (phi_cons psound_ok (by kernel_rfl) phi_nil) ?_
 intro xs hp r hs hp'
 unfold pfindS at hs
 split at hs
 ·injection hs with hs; subst hs
  refine ⟨len_le (by kernel_rfl),?_⟩
  simp only [c_pfind,r_pfind,psoundS,go_sem,reduceDiv,reduceMod,↓reduceIte,reduceEqDiff,Nat.reduceBEq,reduceSub,Nat.reduceLT,reduceAdd,reduceLeDiff,reduceCtorEq,Int.reduceEq,Int.reduceNe,Int.reduceLT,Int.reduceLE,Int.reduceToNat]
  exact hp'
 ·cases hs
def known12S:Spec:=fun xs hp=>match xs,hp with
 | [],[]=>some ⟨.bool true,[],True⟩
 | _,_=>none
set_option maxRecDepth 8000 in
theorem known12_ok:FnOk Tryd.prog 8 known12S:=by
 refine fn_slim2 Tryd.func8 s_known12 (Φ:=phiL [(9,[],pwriteS),(17,[],preadS),(18,[],pfindS)]) (phi_cons pwrite_ok (by kernel_rfl) (phi_cons pread_ok (by kernel_rfl) (phi_cons pfind_ok (by kernel_rfl) phi_nil))) ?_
 intro xs hp r hs hp'
 unfold known12S at hs
 split at hs
 ·injection hs with hs; subst hs
  refine ⟨len_le (by kernel_rfl),?_⟩
  have l0:pack0L.length=32:=rfl
  simp only [c_known12,r_known12,pwriteS,preadS,pfindS,pack0,Bs_len,l0,go_sem,reduceDiv,reduceMod,↓reduceIte,reduceEqDiff,Nat.reduceBEq,reduceSub,Nat.reduceLT,reduceAdd,reduceLeDiff,reduceCtorEq,Int.reduceEq,Int.reduceNe,Int.reduceLT,Int.reduceLE,Int.reduceToNat]
  exact ⟨fun _ h=>absurd h (by decide),fun h=>absurd h (by decide)⟩
 ·cases hs
end Go.Proofs.YtakolikdebfkeaaDoor
namespace Go.Proofs.YtakolikdebfkeaaDoor
open Go.RowKit Go.ChangeShapes Go.WideShapes Go.ChangeAt Go.Deep
section
variable {H : Type} {enc : TypeId × Value → H} {P : Program} {w : World} {base : Nat} {spare : Nat → Bool} {held : Bool}
end
end Go.Proofs.YtakolikdebfkeaaDoor
namespace Go.Proofs.YtakolikdebfkeaaDoor
open Go.RowKit Go.ChangeShapes Go.WideShapes Go.ChangeAt Go.Deep
section
variable {H : Type} {enc : TypeId × Value → H} {P : Program} {w : World} {base : Nat} {spare : Nat → Bool} {held : Bool}
end
end Go.Proofs.YtakolikdebfkeaaDoor
namespace Go.Proofs.YtakolikdebfkeaaDoor
open Go.RowKit Go.ChangeShapes Go.WideShapes Go.ChangeAt Go.Deep
section
variable {H : Type} {enc : TypeId × Value → H} {P : Program} {w : World} {base : Nat} {spare : Nat → Bool} {held : Bool}
end
end Go.Proofs.YtakolikdebfkeaaDoor
