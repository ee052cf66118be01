import Derived.Test.YtakolikdebfkeaaDoorQMem
import Derived.Stop.BytesEq
import Derived.Laws.IdiomCopy
import Derived.WalkLawsBesides
import Derived.Laws.StructEq
import Derived.Laws.IdiomStrings
import Derived.Laws.MakeOwn
import Derived.Maps.Keyed
open Nat (reduceDiv reduceMod reduceSub reduceAdd reduceLeDiff reduceEqDiff)
set_option linter.all false
namespace Go.Proofs.YtakolikdebfkeaaDoor
open Go.RowKit
structure Lc where
 A:Option Addr
 c:Nat
 n:Nat
 sz:Nat
abbrev Rho:=Nat→Nat→Option Lc
def rho0:Rho:=fun _ _=>none
inductive AV where
 | top
 | int (k:IntKind) (n:Int)
 | bool (b:Bool)
 | str (l:List UInt8)
 | con (x:Value)
 | blob (cs:List Value)
 | agg (ps:List (Nat × AV))
 | tup (xs:List AV)
 | sl (sz:Nat) (xs:List AV)
 | ptr (sz:Nat) (x:AV) (o off:Nat)
 | own (id ver:Nat)
 | ownv (id ver i m:Nat)
 | ref (id o off:Nat)
 | rowp (id ver i:Nat) (z:AV) (o off:Nat)
 | fn (f:Fn) (first cap:List AV)
 | iface (t:TypeId) (x:AV)
 | mpv (id:Nat)
 | arv (id o n lo m:Nat)
 | arw (id ver i:Nat) (z:AV) (o n lo m:Nat)
 deriving Inhabited
def AV.multi:AV→Bool
 | .blob _ | .agg _=>true
 | _=>false
def wrapv (x:AV) (us:List Value):Value:=if x.multi then .agg us.toArray else us.headD undef
def prs (sz:Nat) (xs:List AV):List (Nat × AV):=xs.map fun x=>(sz,x)
inductive Cs (w:World) (S:Nat→Prop):Rho→AV→List Value→Prop
 | top {ρ} (us:List Value) (h:∀ u∈us,u.oneCell' = true):Cs w S ρ .top us
 | int {ρ} (k:IntKind) (n:Int):Cs w S ρ (.int k n) [.int k n]
 | bool {ρ} (b:Bool):Cs w S ρ (.bool b) [.bool b]
 | str {ρ} (l:List UInt8):Cs w S ρ (.str l) [.string ⟨l.toArray⟩]
 | con {ρ} (x:Value) (h:x.oneCell' = true):Cs w S ρ (.con x) [x]
 | blob {ρ} (cs:List Value) (h:∀ u∈cs,u.oneCell' = true):Cs w S ρ (.blob cs) cs
 | agg {ρ} (ps:List (Nat × AV)) (uss:List (List Value)):uss.length=ps.length→(∀ i,i<ps.length→(uss.getD i []).length=(ps.getD i (0,.top)).1) →
   (∀ i,i<ps.length→Cs w S ρ (ps.getD i (0,.top)).2 (uss.getD i []))→Cs w S ρ (.agg ps) uss.flatten
 | sl0 {ρ} (sz:Nat) (A:Option Addr) (c:Nat) (h:c≤9223372036854775807):Cs w S ρ (.sl sz []) [.slice A 0 c]
 | sl {ρ} (sz:Nat) (xs:List AV) (us:List Value) (b o c:Nat):S b→Cs w S rho0 (.agg (prs sz xs)) us→us.length=xs.length * sz →
   (∀ j,j<us.length→w.cell? ⟨b,o+j,none⟩=us[j]?)→xs.length≤c→c≤9223372036854775807→Cs w S ρ (.sl sz xs) [.slice (some ⟨b,o,none⟩) xs.length c]
 | ptr {ρ} (sz:Nat) (x:AV) (o off:Nat) (us:List Value) (b base:Nat):S b→Cs w S rho0 x us→us.length=sz →
   (∀ j,j<us.length→w.cell? ⟨b,base+j,none⟩=us[j]?)→Cs w S ρ (.ptr sz x o off) [.pointer (some ⟨b,base+(o+off),none⟩)]
 | own {ρ} (id ver:Nat) (L:Lc):ρ id ver=some L→Cs w S ρ (.own id ver) [.slice L.A L.n L.c]
 | ownv {ρ} (id ver i m:Nat) (L:Lc) (A:Option Addr):ρ id ver=some L→i+m≤L.n→(0<m∨i=0→A=cutA L.A L.c i L.sz)→Cs w S ρ (.ownv id ver i m) [.slice A m (L.c - i)]
 | ref {ρ} (id o off g:Nat) (L:Lc):ρ id 0=some L→L.A=some ⟨g,0,none⟩→Cs w S ρ (.ref id o off) [.pointer (some ⟨g,o+off,none⟩)]
 | rowp {ρ} (id ver i:Nat) (z:AV) (o off g:Nat) (L:Lc):ρ id ver=some L→L.A=some ⟨g,0,none⟩→Cs w S ρ (.rowp id ver i z o off) [.pointer (some ⟨g,i * L.sz+(o+off),none⟩)]
 | fn {ρ} (f:Fn) (first cap:List AV) (us vs:List Value):us.length=first.length→vs.length=cap.length →
   (∀ i,i<first.length→Cs w S ρ (first.getD i .top) [us.getD i undef])→(∀ i,i<cap.length→Cs w S ρ (cap.getD i .top) [vs.getD i undef]) →
   Cs w S ρ (.fn f first cap) [.func f us.toArray vs.toArray]
 | iface {ρ} (t:TypeId) (x:AV) (us:List Value):Cs w S ρ x us→Cs w S ρ (.iface t x) [.iface t (wrapv x us)]
 | mpv {ρ} (id g:Nat) (L:Lc):ρ id 0=some L→L.A=some ⟨g,0,none⟩→Cs w S ρ (.mpv id) [.map (some g)]
 | arv {ρ} (id o n lo m g:Nat) (L:Lc):ρ id 0=some L→L.A=some ⟨g,0,none⟩→lo+m≤n→n≤9223372036854775807→Cs w S ρ (.arv id o n lo m) [.slice (some ⟨g,o+lo,none⟩) m (n - lo)]
 | arw {ρ} (id ver i:Nat) (z:AV) (o n lo m g:Nat) (L:Lc):ρ id ver=some L→L.A=some ⟨g,0,none⟩→i<L.n→lo+m≤n→n≤9223372036854775807→Cs w S ρ (.arw id ver i z o n lo m) [.slice (some ⟨g,i * L.sz+(o+lo),none⟩) m (n - lo)]
structure Ext (w w' : World) (S S' : Nat→Prop) (ρ ρ' : Rho):Prop where
 mem:∀ b,S b→w'.heap[b]?=w.heap[b]?
 st:∀ b,S b→S' b
 loc:∀ id ver L,ρ id ver=some L→ρ' id ver=some L
theorem Ext.refl (w:World) (S:Nat→Prop) (ρ:Rho):Ext w w S S ρ ρ:=⟨fun _ _=>rfl,fun _ h=>h,fun _ _ _ h=>h⟩
theorem Ext.trans {w w' w'' : World} {S S' S'' : Nat→Prop} {ρ ρ' ρ'' : Rho} (h:Ext w w' S S' ρ ρ') (k:Ext w' w'' S' S'' ρ' ρ''):Ext w w'' S S'' ρ ρ'' :=
 ⟨fun b hb=>(k.mem b (h.st b hb)).trans (h.mem b hb),fun b hb=>k.st b (h.st b hb),fun id ver L hl=>k.loc id ver L (h.loc id ver L hl)⟩
theorem Cs.ext {w w' : World} {S S' : Nat→Prop} {ρ:Rho} {x:AV} {us:List Value} (h:Cs w S ρ x us):∀ {ρ' : Rho},(∀ b,S b→w'.heap[b]?=w.heap[b]?)→(∀ b,S b→S' b)→(∀ id ver L,ρ id ver=some L→ρ' id ver=some L)→Cs w' S' ρ' x us:=by
 induction h with
 | top us h=>intros; exact .top us h
 | int k n=>intros; exact .int k n
 | bool b=>intros; exact .bool b
 | str l=>intros; exact .str l
 | con x h=>intros; exact .con x h
 | blob cs h=>intros; exact .blob cs h
 | agg ps uss h1 h2 _ ih=>intro ρ' hm hs hl; exact .agg ps uss h1 h2 fun i hi=>ih i hi hm hs hl
 | sl0 sz A c h=>intros; exact .sl0 sz A c h
 | sl sz xs us b o c hb _ h2 h3 h4 h5 ih =>
  intro ρ' hm hs hl
  exact .sl sz xs us b o c (hs b hb) (ih hm hs (fun _ _ _ h=>h)) h2 (fun j hj=>(World.cell?_of_block (hm b hb)).trans (h3 j hj)) h4 h5
 | ptr sz x o off us b base hb _ h2 h3 ih =>
  intro ρ' hm hs hl
  exact .ptr sz x o off us b base (hs b hb) (ih hm hs (fun _ _ _ h=>h)) h2 (fun j hj=>(World.cell?_of_block (hm b hb)).trans (h3 j hj))
 | own id ver L h=>intro ρ' hm hs hl; exact .own id ver L (hl _ _ _ h)
 | ownv id ver i m L A h h2 h3=>intro ρ' hm hs hl; exact .ownv id ver i m L A (hl _ _ _ h) h2 h3
 | ref id o off g L h h2=>intro ρ' hm hs hl; exact .ref id o off g L (hl _ _ _ h) h2
 | rowp id ver i z o off g L h h2=>intro ρ' hm hs hl; exact .rowp id ver i z o off g L (hl _ _ _ h) h2
 | fn f first cap us vs h1 h2 _ _ ih1 ih2=>intro ρ' hm hs hl; exact .fn f first cap us vs h1 h2 (fun i hi=>ih1 i hi hm hs hl) (fun i hi=>ih2 i hi hm hs hl)
 | iface t x us _ ih=>intro ρ' hm hs hl; exact .iface t x us (ih hm hs hl)
 | mpv id g L h h2=>intro ρ' hm hs hl; exact .mpv id g L (hl _ _ _ h) h2
 | arv id o n lo m g L h h2 h3 h4=>intro ρ' hm hs hl; exact .arv id o n lo m g L (hl _ _ _ h) h2 h3 h4
 | arw id ver i z o n lo m g L h h2 h3 h4 h5=>intro ρ' hm hs hl; exact .arw id ver i z o n lo m g L (hl _ _ _ h) h2 h3 h4 h5
def Vl1 (w:World) (S:Nat→Prop) (ρ:Rho) (x:AV) (v:Value):Prop:=x=.top∨∃ us,Cs w S ρ x us∧v=wrapv x us
def Vl (w:World) (S:Nat→Prop) (ρ:Rho):AV→Value→Prop
 | .tup xs,v=>∃ vs:List Value,v=.tuple vs.toArray∧vs.length=xs.length∧∀ i,i<xs.length→Vl1 w S ρ (xs.getD i .top) (vs.getD i undef)
 | x,v=>Vl1 w S ρ x v
section
variable {w w' : World} {S S' : Nat → Prop} {ρ ρ' : Rho}
theorem Vl1.ext {x:AV} {v:Value} (h:Vl1 w S ρ x v) (e:Ext w w' S S' ρ ρ'):Vl1 w' S' ρ' x v:=by
 rcases h with h | ⟨us,h,h2⟩
 ·exact .inl h
 ·exact .inr ⟨us,h.ext e.mem e.st e.loc,h2⟩
theorem Vl.ext {x:AV} {v:Value} (h:Vl w S ρ x v) (e:Ext w w' S S' ρ ρ'):Vl w' S' ρ' x v:=by
 cases x
 case tup xs=>obtain ⟨vs,h1,h2,h3⟩:=h; exact ⟨vs,h1,h2,fun i hi=>(h3 i hi).ext e⟩
 all_goals exact Vl1.ext h e
theorem Vl.top (v:Value):Vl w S ρ .top v:=.inl rfl
theorem Vl.int {k:IntKind} {n:Int} {v:Value} (h:Vl w S ρ (.int k n) v):v=.int k n:=by
 rcases h with h | ⟨us,h,rfl⟩
 ·cases h
 ·cases h; rfl
theorem Vl.bool {b:Bool} {v:Value} (h:Vl w S ρ (.bool b) v):v=.bool b:=by
 rcases h with h | ⟨us,h,rfl⟩
 ·cases h
 ·cases h; rfl
theorem Vl.str {l:List UInt8} {v:Value} (h:Vl w S ρ (.str l) v):v=.string ⟨l.toArray⟩:=by
 rcases h with h | ⟨us,h,rfl⟩
 ·cases h
 ·cases h; rfl
theorem Vl.con {x:Value} {v:Value} (h:Vl w S ρ (.con x) v):v=x:=by
 rcases h with h | ⟨us,h,rfl⟩
 ·cases h
 ·cases h; rfl
theorem Vl.blob {cs:List Value} {v:Value} (h:Vl w S ρ (.blob cs) v):v=.agg cs.toArray:=by
 rcases h with h | ⟨us,h,rfl⟩
 ·cases h
 ·cases h; rfl
theorem Vl.agg {ps:List (Nat × AV)} {v:Value} (h:Vl w S ρ (.agg ps) v):∃ us,Cs w S ρ (.agg ps) us∧v=.agg us.toArray:=by
 rcases h with h | ⟨us,h,rfl⟩
 ·cases h
 ·exact ⟨us,h,rfl⟩
theorem Vl.int' (k:IntKind) (n:Int):Vl w S ρ (.int k n) (.int k n):=.inr ⟨_,.int k n,rfl⟩
theorem Vl.bool' (b:Bool):Vl w S ρ (.bool b) (.bool b):=.inr ⟨_,.bool b,rfl⟩
theorem Vl.str' (l:List UInt8):Vl w S ρ (.str l) (.string ⟨l.toArray⟩):=.inr ⟨_,.str l,rfl⟩
theorem Vl.con' (x:Value) (h:x.oneCell' = true):Vl w S ρ (.con x) x:=.inr ⟨_,.con x h,rfl⟩
theorem Vl.blob' (cs:List Value) (h:∀ u∈cs,u.oneCell' = true):Vl w S ρ (.blob cs) (.agg cs.toArray):=.inr ⟨_,.blob cs h,rfl⟩
theorem Vl.agg' {ps:List (Nat × AV)} {us:List Value} (h:Cs w S ρ (.agg ps) us):Vl w S ρ (.agg ps) (.agg us.toArray):=.inr ⟨_,h,rfl⟩
theorem Vl.of1 {x:AV} {v:Value} (hx:∀ xs,x≠.tup xs) (h:Vl1 w S ρ x v):Vl w S ρ x v:=by
 cases x
 case tup xs=>exact absurd rfl (hx xs)
 all_goals exact h
theorem Vl.to1 {x:AV} {v:Value} (hx:∀ xs,x≠.tup xs) (h:Vl w S ρ x v):Vl1 w S ρ x v:=by
 cases x
 case tup xs=>exact absurd rfl (hx xs)
 all_goals exact h
end
theorem Cs.one {w:World} {S:Nat→Prop} {ρ:Rho} {x:AV} {us:List Value} (h:Cs w S ρ x us):∀ u∈us,u.oneCell' = true:=by
 induction h with
 | top us h=>exact h
 | con x h=>intro u hu; simp only [List.mem_singleton] at hu; subst hu; exact h
 | blob cs h=>exact h
 | agg ps uss h1 h2 _ ih =>
  intro u hu
  obtain ⟨us,hus,hu⟩:=List.mem_flatten.1 hu
  obtain ⟨i,hi,e⟩:=List.getElem_of_mem hus
  have:=ih i (by omega)
  rw [List.getD_eq_getElem?_getD,List.getElem?_eq_getElem hi] at this
  exact this u (by simpa [e] using hu)
 | _=>intro u hu; simp only [List.mem_singleton] at hu; subst hu; rfl
def Css (w:World) (S:Nat→Prop) (ρ:Rho):List (Nat × AV)→List Value→Prop
 | [],us=>us=[]
 | (s,x) :: ps,us=>∃ u1 u2,us=u1 ++ u2∧u1.length=s∧Cs w S ρ x u1∧Css w S ρ ps u2
section
variable {w w' : World} {S S' : Nat → Prop} {ρ ρ' : Rho}
theorem css_of_uss (ps:List (Nat × AV)):∀ (uss:List (List Value)),uss.length=ps.length→(∀ i,i<ps.length→(uss.getD i []).length=(ps.getD i (0,.top)).1) →
  (∀ i,i<ps.length→Cs w S ρ (ps.getD i (0,.top)).2 (uss.getD i []))→Css w S ρ ps uss.flatten:=by
 induction ps with
 | nil=>intro uss h1 _ _; obtain rfl:=List.eq_nil_of_length_eq_zero h1; rfl
 | cons p ps ih =>
  intro uss h1 h2 h3
  cases uss with
  | nil=>simp at h1
  | cons u uss =>
   refine ⟨u,uss.flatten,rfl,h2 0 (by simp),h3 0 (by simp),ih uss (by simpa using h1) (fun i hi=>?_) (fun i hi=>?_)⟩
   ·have:=h2 (i+1) (by simpa using hi); simpa using this
   ·have:=h3 (i+1) (by simpa using hi); simpa using this
theorem uss_of_css (ps:List (Nat × AV)):∀ (us:List Value),Css w S ρ ps us→∃ uss:List (List Value),us=uss.flatten∧uss.length=ps.length∧(∀ i,i<ps.length→(uss.getD i []).length=(ps.getD i (0,.top)).1) ∧
  (∀ i,i<ps.length→Cs w S ρ (ps.getD i (0,.top)).2 (uss.getD i [])):=by
 induction ps with
 | nil=>intro us h; exact ⟨[],h,rfl,fun i hi=>by simp at hi,fun i hi=>by simp at hi⟩
 | cons p ps ih =>
  intro us h
  obtain ⟨s,x⟩:=p
  obtain ⟨u1,u2,rfl,h1,h2,h3⟩:=h
  obtain ⟨uss,rfl,h4,h5,h6⟩:=ih u2 h3
  refine ⟨u1 :: uss,rfl,by simp [h4],fun i hi=>?_,fun i hi=>?_⟩
  ·cases i with
   | zero=>simpa using h1
   | succ i=>simpa using h5 i (by simpa using hi)
  ·cases i with
   | zero=>simpa using h2
   | succ i=>simpa using h6 i (by simpa using hi)
theorem Cs.parts {ps:List (Nat × AV)} {us:List Value} (h:Cs w S ρ (.agg ps) us):Css w S ρ ps us:=by
 cases h with
 | agg _ uss h1 h2 h3=>exact css_of_uss ps uss h1 h2 h3
theorem Css.cs {ps:List (Nat × AV)} {us:List Value} (h:Css w S ρ ps us):Cs w S ρ (.agg ps) us:=by
 obtain ⟨uss,rfl,h1,h2,h3⟩:=uss_of_css ps us h
 exact .agg ps uss h1 h2 h3
theorem Css.ext {ps:List (Nat × AV)} {us:List Value} (h:Css w S ρ ps us) (e:Ext w w' S S' ρ ρ'):Css w' S' ρ' ps us:=(h.cs.ext e.mem e.st e.loc).parts
theorem Css.append {ps qs:List (Nat × AV)} {us vs:List Value} (h:Css w S ρ ps us) (k:Css w S ρ qs vs):Css w S ρ (ps ++ qs) (us ++ vs):=by
 induction ps generalizing us with
 | nil=>obtain rfl:=h; exact k
 | cons p ps ih =>
  obtain ⟨s,x⟩:=p
  obtain ⟨u1,u2,rfl,h1,h2,h3⟩:=h
  exact ⟨u1,u2 ++ vs,by rw [List.append_assoc],h1,h2,ih h3⟩
def psz:List (Nat × AV)→Nat
 | []=>0
 | (s,_) :: ps=>s+psz ps
theorem psz_append (ps qs:List (Nat × AV)):psz (ps ++ qs)=psz ps+psz qs:=by
 induction ps with
 | nil=>simp [psz]
 | cons p ps ih=>obtain ⟨s,x⟩:=p; simp only [List.cons_append,psz,ih]; omega
theorem psz_prs (sz:Nat) (xs:List AV):psz (prs sz xs)=xs.length * sz:=by
 induction xs with
 | nil=>simp [prs,psz]
 | cons x xs ih =>
  have:prs sz (x :: xs)=(sz,x) :: prs sz xs:=rfl
  rw [this]
  simp only [psz,ih,List.length_cons,Nat.add_mul,Nat.one_mul]
  omega
theorem Css.len {ps:List (Nat × AV)} {us:List Value} (h:Css w S ρ ps us):us.length=psz ps:=by
 induction ps generalizing us with
 | nil=>obtain rfl:=h; rfl
 | cons p ps ih =>
  obtain ⟨s,x⟩:=p
  obtain ⟨u1,u2,rfl,h1,h2,h3⟩:=h
  rw [List.length_append,h1,ih h3]; rfl
theorem Css.split {ps qs:List (Nat × AV)} {us:List Value} (h:Css w S ρ (ps ++ qs) us):Css w S ρ ps (us.take (psz ps))∧Css w S ρ qs (us.drop (psz ps)):=by
 induction ps generalizing us with
 | nil=>exact ⟨by simp [psz,Css],by simpa [psz] using h⟩
 | cons p ps ih =>
  obtain ⟨s,x⟩:=p
  obtain ⟨u1,u2,rfl,h1,h2,h3⟩:=h
  obtain ⟨k1,k2⟩:=ih h3
  subst h1
  refine ⟨⟨u1,u2.take (psz ps),?_,rfl,h2,k1⟩,?_⟩
  ·simp only [psz]; rw [List.take_length_add_append]
  ·simp only [psz]; rw [List.drop_length_add_append]; exact k2
theorem Css.one {ps:List (Nat × AV)} {us:List Value} (h:Css w S ρ ps us) (i:Nat) {s:Nat} {x:AV} (hi:ps[i]?=some (s,x)) :
  Cs w S ρ x ((us.drop (psz (ps.take i))).take s)∧psz (ps.take i)+s≤us.length:=by
 have hlt:i<ps.length:=(List.getElem?_eq_some_iff.1 hi).1
 have hp:ps=ps.take i ++ (s,x) :: ps.drop (i+1):=by
  have h1:=List.take_append_drop i ps
  rw [List.drop_eq_getElem_cons hlt,(List.getElem?_eq_some_iff.1 hi).2] at h1
  exact h1.symm
 have hl:=h.len
 rw [hp] at h
 obtain ⟨_,h2⟩:=h.split
 have h3:=h2.len
 obtain ⟨u1,u2,e,h4,h5,h6⟩:=h2
 subst h4
 refine ⟨by rw [e,List.take_left' rfl]; exact h5,?_⟩
 have:(us.drop (psz (ps.take i))).length=u1.length+u2.length:=by rw [e,List.length_append]
 rw [List.length_drop] at this
 have h7:=congrArg psz hp
 rw [psz_append] at h7
 simp only [psz] at h7
 omega
theorem prs_get (sz:Nat) (xs:List AV) (i:Nat):(prs sz xs)[i]?=(xs[i]?).map fun x=>(sz,x):=by simp [prs]
theorem prs_append (sz:Nat) (xs ys:List AV):prs sz (xs ++ ys)=prs sz xs ++ prs sz ys:=by simp [prs]
theorem prs_take (sz:Nat) (xs:List AV) (i:Nat):prs sz (xs.take i)=(prs sz xs).take i:=by simp [prs]
theorem Css.cut {sz:Nat} {xs:List AV} {us:List Value} (h:Css w S ρ (prs sz xs) us) {i j:Nat} (hij:i≤j) (hj:j≤xs.length) :
  Css w S ρ (prs sz ((xs.take j).drop i)) ((us.take (j * sz)).drop (i * sz)):=by
 have h1:xs=xs.take j ++ xs.drop j:=(List.take_append_drop j xs).symm
 rw [h1,prs_append] at h
 have h2:=h.split.1
 rw [psz_prs,List.length_take,Nat.min_eq_left hj] at h2
 have h3:xs.take j=(xs.take j).take i ++ (xs.take j).drop i:=(List.take_append_drop i _).symm
 rw [h3,prs_append] at h2
 have h4:=h2.split.2
 rw [psz_prs,List.length_take,List.length_take,Nat.min_eq_left hj,Nat.min_eq_left hij] at h4
 exact h4
theorem Css.elem {sz:Nat} {xs:List AV} {us:List Value} (h:Css w S ρ (prs sz xs) us) {i:Nat} {x:AV} (hi:xs[i]?=some x) :
  Cs w S ρ x ((us.drop (i * sz)).take sz)∧i * sz+sz≤us.length:=by
 have hlt:i<xs.length:=(List.getElem?_eq_some_iff.1 hi).1
 have h1:=h.one i (s:=sz) (x:=x) (by rw [prs_get,hi]; rfl)
 rw [← prs_take,psz_prs,List.length_take,Nat.min_eq_left (by omega)] at h1
 exact h1
def ub (u:UInt8):AV:=.int .u8 (u.toNat:Int)
def Bs (l:List UInt8):List AV:=l.map ub
theorem Bs_length (l:List UInt8):(Bs l).length=l.length:=by simp [Bs]
theorem Bs_append (l m:List UInt8):Bs (l ++ m)=Bs l ++ Bs m:=by simp [Bs]
theorem Bs_take (l:List UInt8) (i:Nat):Bs (l.take i)=(Bs l).take i:=by simp [Bs]
theorem Bs_drop (l:List UInt8) (i:Nat):Bs (l.drop i)=(Bs l).drop i:=by simp [Bs]
theorem css_bytes (l:List UInt8):Css w S ρ (prs 1 (Bs l)) (l.map U):=by
 induction l with
 | nil=>rfl
 | cons u l ih=>exact ⟨[U u],l.map U,rfl,rfl,.int _ _,ih⟩
theorem css_bytes_eq {l:List UInt8} {us:List Value} (h:Css w S ρ (prs 1 (Bs l)) us):us=l.map U:=by
 induction l generalizing us with
 | nil=>exact h
 | cons u l ih =>
  obtain ⟨u1,u2,rfl,_,h2,h3⟩:=h
  rw [ih h3]
  cases h2
  rfl
end
end Go.Proofs.YtakolikdebfkeaaDoor
namespace Go.Proofs.YtakolikdebfkeaaDoor
open Go.RowKit
inductive KS where
 | i (k:IntKind)
 | s
 | a (n:Nat)
 deriving DecidableEq,Inhabited
inductive MK where
 | i (k:IntKind) (n:Int)
 | s (l:List UInt8)
 | a (l:List UInt8)
 deriving DecidableEq,Inhabited
def MK.val:MK→Value
 | .i k n=>.int k n
 | .s l=>.string ⟨l.toArray⟩
 | .a l=>.agg (l.map U).toArray
def KS.ok:KS→MK→Prop
 | .i k,.i k' n=>k' = k∧k.min≤n∧n≤k.max
 | .s,.s l=>l.length≤9223372036854775807
 | .a n,.a l=>l.length=n
 | _,_=>False
def getM:List (MK × AV)→MK→Option AV
 | [],_=>none
 | (k',x) :: r,k=>if k' = k then some x else getM r k
def putM:List (MK × AV)→MK→AV→List (MK × AV)
 | [],k,x=>[(k,x)]
 | (k',y) :: r,k,x=>if k' = k then (k',x) :: r else (k',y) :: putM r k x
def MapOk (w:World) (S:Nat→Prop) (ρ:Rho) (ks:KS):List (MK × AV)→List MapEntry→Prop
 | [],[]=>True
 | p :: r,e :: l=>(ks.ok p.1∧e.key=p.1.val∧∃ us,Cs w S ρ p.2 us∧e.val=wrapv p.2 us)∧MapOk w S ρ ks r l
 | _,_=>False
theorem MapOk.ext {w w' : World} {S S' : Nat→Prop} {ρ ρ' : Rho} {ks:KS}:∀ {es:List (MK × AV)} {l:List MapEntry},MapOk w S ρ ks es l→Ext w w' S S' ρ ρ' → MapOk w' S' ρ' ks es l
 | [],[],_,_=>trivial
 | p :: r,e :: l,⟨⟨h1,h2,us,h3,h4⟩,h5⟩,x=>⟨⟨h1,h2,us,h3.ext x.mem x.st x.loc,h4⟩,h5.ext x⟩
 | [],_ :: _,h,_=>h.elim
 | _ :: _,[],h,_=>h.elim
inductive AObj where
 | cells (t:TypeId) (ps:List (Nat × AV))
 | mp (ks:KS) (es:List (MK × AV))
 | row (e:TypeId) (sz ver:Nat) (xs:List AV)
 | froz (sz ver:Nat) (xs:List AV)
 | gone
 deriving Inhabited
def Mk (fr:Nat × Nat) (n:Nat):Prop:=fr.1=fr.2∨n≤fr.1
theorem Mk.out {fr:Nat × Nat} {n:Nat} (h:Mk fr n):∀ j,j<n→¬ (fr.1≤j∧j<fr.2):=by
 intro j hj hh
 rcases h with h | h <;> omega
def Rw (w:World) (e:TypeId) (L:Lc) (us:List Value):Prop :=
 us.length=L.n * L.sz∧((L.A=none∧L.n=0∧L.c=0)∨∃ g cur fr,L.A=some ⟨g,0,none⟩∧w.heap[g]?=some (.cells cur e fr)∧Mk fr cur.size ∧
  L.n≤L.c∧L.c≤9223372036854775807∧cur.size=L.c * L.sz∧cur.toList.take (L.n * L.sz)=us)
def ObjOk (w:World) (S:Nat→Prop) (ρ:Rho) (id:Nat):AObj→Prop
 | .cells t ps=>∃ g us,ρ id 0=some ⟨some ⟨g,0,none⟩,0,0,0⟩∧w.heap[g]?=some (.cells us.toArray t (0,0))∧Css w S ρ ps us∧¬ S g
 | .mp ks es=>∃ g arr clock,ρ id 0=some ⟨some ⟨g,0,none⟩,0,0,0⟩∧w.heap[g]?=some (.map arr clock)∧MapOk w S ρ ks es arr.toList∧MapKept.Stamped arr clock∧¬ S g
 | .row e sz ver xs=>∃ L us,ρ id ver=some L∧L.n=xs.length∧L.sz=sz∧Rw w e L us∧Css w S rho0 (prs sz xs) us∧(∀ g,ablk L.A=some g→¬ S g)
 | .froz sz ver xs=>∃ L,ρ id ver=some L∧L.n=xs.length∧L.sz=sz∧Cs w S rho0 (.sl sz xs) [.slice L.A L.n L.c]
 | .gone=>∀ v,ρ id v=none
def AObj.ver:AObj→Nat
 | .row _ _ v _=>v
 | .froz _ v _=>v
 | _=>0
def AObj.blk (ρ:Rho) (id:Nat):AObj→Option Nat
 | .cells _ _=>(ρ id 0).bind fun L=>ablk L.A
 | .mp _ _=>(ρ id 0).bind fun L=>ablk L.A
 | .row _ _ v _=>(ρ id v).bind fun L=>ablk L.A
 | _=>none
structure HeapOk (F:Nat→Prop) (w0:World) (S:Nat→Prop) (ρ:Rho) (hp:List AObj) (w:World):Prop where
 kept:Kept F w0 w
 ob:∀ (id:Nat) (o:AObj),hp[id]?=some o→ObjOk w S ρ id o
 apart:∀ (i j:Nat) (x y:AObj),i≠j→hp[i]?=some x→hp[j]?=some y→∀ b,x.blk ρ i=some b→y.blk ρ j≠some b
 mine:∀ (id:Nat) (o:AObj),hp[id]?=some o→∀ b,o.blk ρ id=some b→F b∨w0.heap.size≤b
 slt:∀ b,S b→b<w.heap.size
 new:∀ id,hp.length≤id→∀ v,ρ id v=none
 vers:∀ (id:Nat) (o:AObj),hp[id]?=some o→∀ v,o.ver<v→ρ id v=none
def lk:List (Nat × AV)→Nat→AV
 | [],_=>.top
 | (k,v) :: r,i=>if k=i then v else lk r i
structure St where
 fr:List (Nat × AV)
 hp:List AObj
inductive Opd where
 | t (n:Nat)
 | c (x:AV)
def St.ev (s:St):Opd→AV
 | .t n=>lk s.fr n
 | .c x=>x
def glob1 (g:Nat):List (Nat × GE)→Option (Nat × AV)
 | []=>none
 | (h,.cells cs) :: r=>if h=g then some (cs.length,.blob cs) else glob1 g r
 | (h,.err t l) :: r=>if h=g then some (1,.iface t (.ptr 1 (.str l) 0 0)) else glob1 g r
def GlobOk (w:World) (S:Nat→Prop):Prop:=(∀ g sz x,glob1 g globs=some (sz,x)→S g∧∃ us t fr,Cs w S rho0 x us∧us.length=sz∧w.heap[g]?=some (.cells us.toArray t fr)) ∧
 ∀ g,globInts.contains g=true→S g∧∃ m,w.cell? ⟨g,0,none⟩=some (.int .i64 m)
theorem GlobOk.ext {w w' : World} {S S' : Nat→Prop} (h:GlobOk w S) (hm:∀ b,S b→w'.heap[b]?=w.heap[b]?) (hs:∀ b,S b→S' b):GlobOk w' S' := by
 refine ⟨fun g sz x hg=>?_,fun g hg=>?_⟩
 ·obtain ⟨h1,us,t,fr,h2,h3,h4⟩:=h.1 g sz x hg
  exact ⟨hs _ h1,us,t,fr,h2.ext hm hs (fun _ _ _ h=>h),h3,by rw [hm _ h1]; exact h4⟩
 ·obtain ⟨h1,m,h2⟩:=h.2 g hg
  exact ⟨hs _ h1,m,(World.cell?_of_block (hm g h1)).trans h2⟩
def FrOk (w:World) (S:Nat→Prop) (ρ:Rho) (fr:List (Nat × AV)) (ts:Array Value):Prop:=GlobOk w S∧∀ t,Vl w S ρ (lk fr t) (ts.getD t undef)
theorem FrOk.put {w:World} {S:Nat→Prop} {ρ:Rho} {fr:List (Nat × AV)} {ts:Array Value} (h:FrOk w S ρ fr ts) {d:Nat} (hd:d<ts.size) {x:AV} {v:Value} (hv:Vl w S ρ x v):FrOk w S ρ ((d,x) :: fr) (ts.setIfInBounds d v):=by
 refine ⟨h.1,fun t=>?_⟩
 by_cases e:d=t
 ·subst e; simp [lk,hd,hv]
 ·simp only [lk,if_neg e]
  have:(ts.setIfInBounds d v).getD t undef=ts.getD t undef:=by simp [Array.getElem?_setIfInBounds_ne e]
  rw [this]; exact h.2 t
theorem FrOk.ext {w w' : World} {S S' : Nat→Prop} {ρ ρ' : Rho} {fr:List (Nat × AV)} {ts:Array Value} (h:FrOk w S ρ fr ts) (e:Ext w w' S S' ρ ρ'):FrOk w' S' ρ' fr ts:=⟨h.1.ext e.mem e.st,fun t=>(h.2 t).ext e⟩
def pt:List (Nat × AV)→Nat→Option (Nat × AV)
 | [],_=>none
 | (s,x) :: ps,o=>if o=0 then some (s,x) else if s≤o then pt ps (o - s) else none
def pparts (sz:Nat):AV→List (Nat × AV)
 | .agg ps=>ps
 | x=>[(sz,x)]
def ofC:Value→AV
 | .int k n=>.int k n
 | .bool b=>.bool b
 | .string s=>.str s.data.toList
 | v=>if v.oneCell' then .con v else .top
theorem cs_ofC {w:World} {S:Nat→Prop} {ρ:Rho} (v:Value) (h:v.oneCell' = true):Cs w S ρ (ofC v) [v]:=by
 cases v
 case int k n=>exact .int k n
 case bool b=>exact .bool b
 case string s=>have:=Cs.str (w:=w) (S:=S) (ρ:=ρ) s.data.toList; simpa [ofC] using this
 case agg=>cases h
 case tuple=>cases h
 all_goals exact .con _ rfl
section
variable {w : World} {S : Nat → Prop} {ρ : Rho}
theorem pt_ok {ps:List (Nat × AV)} {o s:Nat} {x:AV} {us:List Value} (h:Css w S ρ ps us) (hp:pt ps o=some (s,x)):Cs w S ρ x ((us.drop o).take s)∧o+s≤us.length:=by
 induction ps generalizing o us with
 | nil=>cases hp
 | cons p ps ih =>
  obtain ⟨s',y⟩:=p
  obtain ⟨u1,u2,rfl,h1,h2,h3⟩:=h
  simp only [pt] at hp
  split at hp
  ·rename_i ho; subst ho; injection hp with hp; injection hp with e1 e2; subst e1 e2 h1
   exact ⟨by simpa using h2,by simp⟩
  ·split at hp
   ·rename_i hs
    obtain ⟨k1,k2⟩:=ih h3 hp
    refine ⟨?_,by simp; omega⟩
    have:(u1 ++ u2).drop o=u2.drop (o - s'):=by rw [← h1,List.drop_append_of_le_length_left' u1 u2 (by omega)]
    rw [this]; exact k1
   ·cases hp
where
 List.drop_append_of_le_length_left' (u1 u2:List Value) {o:Nat} (h:u1.length≤o):(u1 ++ u2).drop o=u2.drop (o - u1.length):=by
  rw [List.drop_append,List.drop_of_length_le h,List.nil_append]
end
def cutB (cs:List Value) (n lo m:Nat):List Value:=if lo=0∧m=n then cs else (cs.drop lo).take m
def viewC (n lo m:Nat):Option (Nat × AV)→Option (List AV)
 | some (n',.blob cs)=>if n' = n then some ((cutB cs n lo m).map ofC) else none
 | _=>none
def viewA (hp:List AObj):AV→Option (List AV)
 | .arv id o n lo m=>match hp[id]? with
  | some (.cells _ ps)=>viewC n lo m (pt ps o)
  | _=>none
 | .arw id v i z o n lo m=>match hp[id]? with
  | some (.row _ s v' xs)=>if v=v' then viewC n lo m (pt (pparts s (xs.getD i z)) o) else none
  | _=>none
 | _=>none
theorem css_ofC {w:World} {S:Nat→Prop} {ρ:Rho}:∀ {cs:List Value},(∀ u∈cs,u.oneCell' = true)→Css w S ρ (prs 1 (cs.map ofC)) cs
 | [],_=>rfl
 | c :: cs,h=>⟨[c],cs,rfl,rfl,cs_ofC c (h c (by simp)),css_ofC fun u hu=>h u (by simp [hu])⟩
theorem cutB_eq {cs:List Value} {n lo m:Nat} (hn:cs.length=n):cutB cs n lo m=(cs.drop lo).take m:=by
 unfold cutB
 split
 ·rename_i h; obtain ⟨rfl,rfl⟩:=h; rw [List.drop_zero,List.take_of_length_le (by omega)]
 ·rfl
def nilS:Value→Bool
 | .slice none 0 0=>true
 | _=>false
theorem nilS_eq {u:Value} (h:nilS u=true):u=.slice none 0 0:=by
 unfold nilS at h
 split at h
 ·rfl
 ·cases h
def view (hp:List AObj) (sz:Nat):AV→Option (List AV)
 | .sl s xs=>if s=sz then some xs else none
 | .con u=>if nilS u then some [] else none
 | .own id v=>match hp[id]? with
  | some (.row _ s v' xs)=>if v=v' ∧ s=sz then some xs else none
  | some (.froz s v' xs)=>if v=v' ∧ s=sz then some xs else none
  | _=>none
 | .ownv id v i m=>match hp[id]? with
  | some (.row _ s v' xs)=>if v=v' ∧ s=sz then some ((xs.drop i).take m) else none
  | some (.froz s v' xs)=>if v=v' ∧ s=sz then some ((xs.drop i).take m) else none
  | _=>none
 | .arv id o n lo m=>if sz=1 then viewA hp (.arv id o n lo m) else none
 | .arw id v i z o n lo m=>if sz=1 then viewA hp (.arw id v i z o n lo m) else none
 | _=>none
structure Mem (w:World) (S:Nat→Prop) (sz:Nat) (xs:List AV) (A:Option Addr) (n c:Nat) (us:List Value):Prop where
 len:n=xs.length
 css:Css w S rho0 (prs sz xs) us
 cell:0<us.length→∃ b o,A=some ⟨b,o,none⟩∧∀ j,j<us.length→w.cell? ⟨b,o+j,none⟩=us[j]?
 cap:n≤c
 max:c≤9223372036854775807
section
variable {F : Nat → Prop} {w0 w : World} {S : Nat → Prop} {ρ : Rho} {hp : List AObj}
theorem Mem.ulen {sz:Nat} {xs:List AV} {A:Option Addr} {n c:Nat} {us:List Value} (h:Mem w S sz xs A n c us):us.length=xs.length * sz:=by rw [h.css.len,psz_prs]
theorem Mem.of_sl' {x:AV} {vs:List Value} (h:Cs w S ρ x vs):∀ sz xs,x=.sl sz xs→∀ v,vs=[v]→∃ A n c us,v=.slice A n c∧Mem w S sz xs A n c us:=by
 cases h with
 | sl0 sz A c hc=>intro sz' xs' e v ev; cases e; cases ev; exact ⟨A,0,c,[],rfl,rfl,rfl,fun h=>by simp at h,Nat.zero_le _,hc⟩
 | sl sz xs us b o c hS h1 h2 h3 h4 h5=>intro sz' xs' e v ev; cases e; cases ev; exact ⟨_,_,c,us,rfl,rfl,h1.parts,fun _=>⟨b,o,rfl,h3⟩,h4,h5⟩
 | _=>intro sz' xs' e; cases e
theorem Mem.of_sl {sz:Nat} {xs:List AV} {v:Value} (h:Cs w S ρ (.sl sz xs) [v]):∃ A n c us,v=.slice A n c∧Mem w S sz xs A n c us:=Mem.of_sl' h _ _ rfl _ rfl
theorem Vl.sl {sz:Nat} {xs:List AV} {v:Value} (h:Vl w S ρ (.sl sz xs) v):Cs w S ρ (.sl sz xs) [v]:=by
 rcases h with h | ⟨us,h,e⟩
 ·cases h
 ·cases h <;> (cases e; first | exact .sl0 _ _ _ (by assumption) | exact .sl _ _ _ _ _ _ (by assumption) (by assumption) (by assumption) (by assumption) (by assumption) (by assumption))
theorem Vl.own {id ver:Nat} {v:Value} (h:Vl w S ρ (.own id ver) v):∃ L,ρ id ver=some L∧v=.slice L.A L.n L.c:=by
 rcases h with h | ⟨us,h,e⟩
 ·cases h
 ·cases h with
  | own _ _ L hL=>exact ⟨L,hL,e⟩
theorem Vl.ownv {id ver i m:Nat} {v:Value} (h:Vl w S ρ (.ownv id ver i m) v):∃ L A,ρ id ver=some L∧i+m≤L.n∧(0<m∨i=0→A=cutA L.A L.c i L.sz)∧v=.slice A m (L.c - i):=by
 rcases h with h | ⟨us,h,e⟩
 ·cases h
 ·cases h with
  | ownv _ _ _ _ L A hL hm hA=>exact ⟨L,A,hL,hm,hA,e⟩
theorem Rw.mem {e:TypeId} {L:Lc} {us:List Value} {xs:List AV} (h:Rw w e L us) (hn:L.n=xs.length) (hc:Css w S rho0 (prs L.sz xs) us):Mem w S L.sz xs L.A L.n L.c us:=by
 obtain ⟨hl,h⟩:=h
 rcases h with ⟨h1,h2,h3⟩ | ⟨g,cur,fr,h1,h2,h3,h4,h5,h6,h7⟩
 ·have hu:us=[]:=List.eq_nil_of_length_eq_zero (by rw [hl,h2,Nat.zero_mul])
  subst hu
  exact ⟨hn,hc,fun h=>by simp at h,by omega,by omega⟩
 ·refine ⟨hn,hc,fun _=>⟨g,0,h1,fun j hj=>?_⟩,h4,h5⟩
  rw [Nat.zero_add,cell_of_row w g j cur e fr h2,← h7,List.getElem?_take,if_pos (by rw [← h7] at hj; simp at hj; omega)]
  simp
theorem Mem.cut {sz:Nat} {xs:List AV} {A:Option Addr} {n c:Nat} {us:List Value} (h:Mem w S sz xs A n c us) {i j:Nat} (hij:i≤j) (hj:j≤xs.length) :
  Mem w S sz ((xs.take j).drop i) (cutA A c i sz) (j - i) (c - i) ((us.take (j * sz)).drop (i * sz)):=by
 have hlen:((us.take (j * sz)).drop (i * sz)).length=(j - i) * sz:=by
  rw [List.length_drop,List.length_take,h.ulen,Nat.min_eq_left (Nat.mul_le_mul_right _ hj),Nat.sub_mul]
 have hcap:=h.cap
 have hn:=h.len
 refine ⟨by rw [part_len' xs i j hj],h.css.cut hij hj,fun hl=>?_,by omega,by have:=h.max; omega⟩
 rw [hlen] at hl
 have hji:i<j:=by
  rcases Nat.lt_or_ge i j with h1 | h1
  ·exact h1
  ·have:j - i=0:=by omega
   rw [this,Nat.zero_mul] at hl; omega
 have hsz:0<sz:=by
  rcases Nat.eq_zero_or_pos sz with h1 | h1
  ·subst h1; simp at hl
  ·exact h1
 obtain ⟨b,o,rfl,hcell⟩:=h.cell (by rw [h.ulen]; exact Nat.mul_pos (by omega) hsz)
 refine ⟨b,o+i * sz,?_,fun k hk=>?_⟩
 ·unfold cutA; rw [if_neg (by omega)]; simp [add_spot]
 ·rw [hlen] at hk
  have hk2:i * sz+k<j * sz:=by rw [Nat.sub_mul] at hk; have:=Nat.mul_le_mul_right sz hij; omega
  rw [List.getElem?_drop,List.getElem?_take,if_pos hk2,← hcell (i * sz+k) (by rw [h.ulen]; exact Nat.lt_of_lt_of_le hk2 (Nat.mul_le_mul_right _ hj)),Nat.add_assoc]
where
 part_len' (xs:List AV) (i j:Nat) (hj:j≤xs.length):((xs.take j).drop i).length=j - i:=by rw [List.length_drop,List.length_take]; omega
def ObsOk (w:World) (S:Nat→Prop) (ρ:Rho) (hp:List AObj):Prop:=∀ (id:Nat) (o:AObj),hp[id]?=some o→o≠.gone→ObjOk w S ρ id o
theorem HeapOk.obs (H:HeapOk F w0 S ρ hp w):ObsOk w S ρ hp:=fun id o h _=>H.ob id o h
theorem viewC_ok {us:List Value} {ps:List (Nat × AV)} {o n lo m:Nat} {xs:List AV} {A:Addr} (hc:Css w S ρ ps us) (h:viewC n lo m (pt ps o)=some xs) (hcell:∀ j,j<us.length→w.cell? ⟨A.block,A.off+j,none⟩=us[j]?) (hm:lo+m≤n) (hn:n≤9223372036854775807) :
  Mem w S 1 xs (some ⟨A.block,A.off+(o+lo),none⟩) m (n - lo) ((((us.drop o).take n).drop lo).take m):=by
 unfold viewC at h
 split at h
 ·rename_i n' cs hp
  split at h
  ·rename_i e; subst e
   injection h with h; subst h
   obtain ⟨k1,k2⟩:=pt_ok hc hp
   generalize hg:(us.drop o).take n' = ws at k1
   cases k1 with
   | blob _ hb =>
    have hcl:cs.length=n' := by rw [← hg,List.length_take,List.length_drop]; omega
    rw [cutB_eq hcl]
    have hl:((cs.drop lo).take m).length=m:=by rw [List.length_take,List.length_drop]; omega
    refine ⟨by rw [List.length_map,hl],css_ofC fun u hu=>hb u (List.mem_of_mem_drop (List.mem_of_mem_take hu)),fun h0=>⟨A.block,A.off+(o+lo),rfl,fun j hj=>?_⟩,by omega,by omega⟩
    rw [hl] at hj
    rw [List.getElem?_take,if_pos hj,List.getElem?_drop,← hg,List.getElem?_take,if_pos (by omega),List.getElem?_drop,← hcell _ (by omega)]
    congr 2; omega
  ·cases h
 ·cases h
theorem Vl.arv {id o n lo m:Nat} {v:Value} (h:Vl w S ρ (.arv id o n lo m) v):∃ g L,ρ id 0=some L∧L.A=some ⟨g,0,none⟩∧lo+m≤n∧n≤9223372036854775807∧v=.slice (some ⟨g,o+lo,none⟩) m (n - lo):=by
 rcases h with h | ⟨us,h,e⟩
 ·cases h
 ·cases h with
  | arv _ _ _ _ _ g L h1 h2 h3 h4=>exact ⟨g,L,h1,h2,h3,h4,e⟩
theorem Vl.arw {id ver i:Nat} {z:AV} {o n lo m:Nat} {v:Value} (h:Vl w S ρ (.arw id ver i z o n lo m) v):∃ g L,ρ id ver=some L∧L.A=some ⟨g,0,none⟩∧i<L.n∧lo+m≤n∧n≤9223372036854775807∧v=.slice (some ⟨g,i * L.sz+(o+lo),none⟩) m (n - lo):=by
 rcases h with h | ⟨us,h,e⟩
 ·cases h
 ·cases h with
  | arw _ _ _ _ _ _ _ _ g L h1 h2 h3 h4 h5=>exact ⟨g,L,h1,h2,h3,h4,h5,e⟩
theorem view_ok (H:ObsOk w S ρ hp) {sz:Nat} {x:AV} {xs:List AV} {v:Value} (hv:view hp sz x=some xs) (h:Vl w S ρ x v):∃ A n c us,v=.slice A n c∧Mem w S sz xs A n c us:=by
 cases x <;> simp only [view,reduceCtorEq] at hv
 case con u =>
  split at hv
  ·rename_i hu; injection hv with hv; subst hv
   exact ⟨none,0,0,[],h.con.trans (nilS_eq hu),rfl,rfl,fun h=>by simp at h,Nat.le_refl _,by omega⟩
  ·cases hv
 case sl s ys =>
  split at hv
  ·rename_i e; subst e; injection hv with hv; subst hv; exact Mem.of_sl h.sl
  ·cases hv
 case arv id o n lo m =>
  split at hv
  ·rename_i e; subst e
   obtain ⟨g,L,hL,hA,hm,hn,rfl⟩:=h.arv
   simp only [viewA] at hv
   split at hv
   ·rename_i t ps ho
    obtain ⟨g',us,h1,h2,h3,h4⟩:=H _ _ ho (by simp)
    rw [hL] at h1; injection h1 with h1; subst h1
    injection hA with hA; injection hA with hA; subst hA
    have:=viewC_ok (A:=⟨g',0,none⟩) h3 hv (fun j hj=>by rw [Nat.zero_add,cell_of_row w g' j us.toArray t (0,0) h2]; simp) hm hn
    simp only [Nat.zero_add] at this
    exact ⟨_,_,_,_,rfl,this⟩
   ·cases hv
  ·cases hv
 case arw id ver i z o n lo m =>
  split at hv
  ·rename_i e; subst e
   obtain ⟨g,L,hL,hA,hi,hm,hn,rfl⟩:=h.arw
   simp only [viewA] at hv
   split at hv
   ·rename_i e s v' ys ho
    split at hv
    ·rename_i e1; subst e1
     obtain ⟨L',us,h1,h2,h3,h4,h5,h6⟩:=H _ _ ho (by simp)
     rw [hL] at h1; injection h1 with h1; subst h1
     subst h3
     obtain ⟨hl,h4⟩:=h4
     rcases h4 with ⟨k1,_⟩ | ⟨g',cur,fr,k1,k2,k3,k4,k5,k6,k7⟩
     ·rw [k1] at hA; cases hA
     ·rw [hA] at k1; injection k1 with k1; injection k1 with k1; subst k1
      have hxi:ys[i]?=some (ys.getD i z):=by rw [List.getD_eq_getElem?_getD,List.getElem?_eq_getElem (by omega)]; rfl
      obtain ⟨m1,m2⟩:=h5.elem hxi
      have hel:((us.drop (i * L.sz)).take L.sz).length=L.sz:=by rw [List.length_take,List.length_drop]; omega
      have:=viewC_ok (A:=⟨g,i * L.sz,none⟩) (ps:=pparts L.sz (ys.getD i z)) (us:=(us.drop (i * L.sz)).take L.sz) (by
       have hs:Css w S rho0 [(L.sz,ys.getD i z)] ((us.drop (i * L.sz)).take L.sz):=⟨_,[],by simp,hel,m1,rfl⟩
       unfold pparts
       split
       ·rename_i ps e; rw [e] at m1; exact m1.parts
       ·exact hs) hv (fun j hj=>by
       rw [hel] at hj
       rw [cell_of_row w g (i * L.sz+j) cur e fr k2,List.getElem?_take,if_pos hj,List.getElem?_drop,← k7,List.getElem?_take,if_pos (by rw [← hl]; omega)]
       simp) hm hn
      exact ⟨_,_,_,_,rfl,this⟩
    ·cases hv
   ·cases hv
  ·cases hv
 case own id ver =>
  obtain ⟨L,hL,rfl⟩:=h.own
  split at hv
  ·rename_i e s v' ys ho
   split at hv
   ·rename_i e; obtain ⟨rfl,rfl⟩:=e; injection hv with hv; subst hv
    obtain ⟨L',us,h1,h2,h3,h4,h5,h6⟩:=H _ _ ho (by simp)
    rw [hL] at h1; injection h1 with h1; subst h1
    subst h3
    exact ⟨_,_,_,us,rfl,h4.mem h2 h5⟩
   ·cases hv
  ·rename_i s v' ys ho
   split at hv
   ·rename_i e; obtain ⟨rfl,rfl⟩:=e; injection hv with hv; subst hv
    obtain ⟨L',h1,h2,h3,h4⟩:=H _ _ ho (by simp)
    rw [hL] at h1; injection h1 with h1; subst h1
    exact Mem.of_sl h4
   ·cases hv
  ·cases hv
 case ownv id ver i m =>
  obtain ⟨L,A0,hL,hm,hA0,rfl⟩:=h.ownv
  have key:∀ {sz:Nat} {ys:List AV},L.n=ys.length→(∃ us,Mem w S sz ys L.A L.n L.c us)→L.sz=sz→∃ A n c us,Value.slice A0 m (L.c - i)=.slice A n c∧Mem w S sz ((ys.drop i).take m) A n c us:=by
   intro sz ys hn ⟨us,hM⟩ hs
   rcases Nat.eq_zero_or_pos m with h0 | h0
   ·subst h0
    have:=hM.max
    exact ⟨_,_,_,[],rfl,by simp,by simp [Css,prs],fun h=>by simp at h,Nat.zero_le _,by omega⟩
   rw [hA0 (.inl h0)]
   have hc:=hM.cut (i:=i) (j:=i+m) (by omega) (by omega)
   subst hs
   have e1:(ys.take (i+m)).drop i=(ys.drop i).take m:=by rw [List.take_drop]
   rw [e1,show i+m - i=m by omega] at hc
   exact ⟨_,_,_,_,rfl,hc⟩
  split at hv
  ·rename_i e s v' ys ho
   split at hv
   ·rename_i e; obtain ⟨rfl,rfl⟩:=e; injection hv with hv; subst hv
    obtain ⟨L',us,h1,h2,h3,h4,h5,h6⟩:=H _ _ ho (by simp)
    rw [hL] at h1; injection h1 with h1; subst h1
    subst h3
    exact key h2 ⟨us,h4.mem h2 h5⟩ rfl
   ·cases hv
  ·rename_i s v' ys ho
   split at hv
   ·rename_i e; obtain ⟨rfl,rfl⟩:=e; injection hv with hv; subst hv
    obtain ⟨L',h1,h2,h3,h4⟩:=H _ _ ho (by simp)
    rw [hL] at h1; injection h1 with h1; subst h1
    obtain ⟨A,n,c,us,e1,hM⟩:=Mem.of_sl h4
    injection e1 with e1 e2 e3
    subst e1 e2 e3
    exact key h2 ⟨us,hM⟩ h3
   ·cases hv
  ·cases hv
end
end Go.Proofs.YtakolikdebfkeaaDoor
namespace Go.Proofs.YtakolikdebfkeaaDoor
open Go.RowKit
theorem vl_ofC {w:World} {S:Nat→Prop} {ρ:Rho} (v:Value):Vl w S ρ (ofC v) v:=by
 cases v
 case int k n=>exact Vl.int' k n
 case bool b=>exact Vl.bool' b
 case string s=>have:=Vl.str' (w:=w) (S:=S) (ρ:=ρ) s.data.toList; simpa [ofC] using this
 all_goals first | exact Vl.con' _ rfl | exact Vl.top _
def opd:Operand→Opd
 | .tmp t=>.t t
 | .const v=>.c (ofC v)
 | .global g=>match glob1 g globs with
  | some (sz,x)=>.c (.ptr sz x 0 0)
  | none=>.c (.con (.pointer (some ⟨g,0,none⟩)))
 | .func f=>.c (.fn (.func f) [] [])
theorem ev_ok {w:World} {S:Nat→Prop} {ρ:Rho} {s:St} {a:Act} (h:FrOk w S ρ s.fr a.tmps) (x:Operand):Vl w S ρ (s.ev (opd x)) (a.eval x):=by
 cases x with
 | tmp t=>exact h.2 t
 | const v=>exact vl_ofC v
 | global g =>
  simp only [opd]
  split
  ·rename_i sz x hg
   obtain ⟨h1,us,t,fr,h2,h3,h4⟩:=h.1.1 g sz x hg
   have hc:=Cs.ptr (ρ:=ρ) sz x 0 0 us g 0 h1 h2 h3 (fun j hj=>by rw [cell_of_row w g (0+j) us.toArray t fr h4]; simp)
   exact .inr ⟨_,hc,rfl⟩
  ·exact Vl.con' _ rfl
 | func f=>exact .inr ⟨_,.fn (.func f) [] [] [] [] rfl rfl (fun i hi=>by simp at hi) (fun i hi=>by simp at hi),rfl⟩
inductive Rt where
 | one (z:AV)
 | arr (n:Nat)
 | st (n:Nat)
def tk:List (Nat × AV)→Nat→Option (List (Nat × AV))
 | [],n=>if n=0 then some [] else none
 | (s,x) :: ps,n=>if n=0 then some [] else if s≤n then (tk ps (n - s)).map ((s,x) :: ·) else none
def subp:List (Nat × AV)→Nat→Nat→Option (List (Nat × AV))
 | [],o,n=>if o=0∧n=0 then some [] else none
 | (s,x) :: ps,o,n=>if o=0 then tk ((s,x) :: ps) n else if s≤o then subp ps (o - s) n else none
section
variable {w : World} {S : Nat → Prop} {ρ : Rho}
theorem tk_ok {ps qs:List (Nat × AV)} {n:Nat} {us:List Value} (h:Css w S ρ ps us) (hp:tk ps n=some qs):Css w S ρ qs (us.take n)∧n≤us.length:=by
 induction ps generalizing n us qs with
 | nil =>
  simp only [tk] at hp
  split at hp
  ·rename_i e; subst e; injection hp with hp; subst hp; exact ⟨by simp [Css],Nat.zero_le _⟩
  ·cases hp
 | cons p ps ih =>
  obtain ⟨s',y⟩:=p
  obtain ⟨u1,u2,rfl,h1,h2,h3⟩:=h
  simp only [tk] at hp
  split at hp
  ·rename_i e; subst e; injection hp with hp; subst hp; exact ⟨by simp [Css],Nat.zero_le _⟩
  ·split at hp
   ·rename_i hs
    cases hq:tk ps (n - s') with
    | none=>rw [hq] at hp; cases hp
    | some qs' =>
     rw [hq] at hp; injection hp with hp; subst hp
     obtain ⟨k1,k2⟩:=ih h3 hq
     refine ⟨⟨u1,u2.take (n - s'),?_,h1,h2,k1⟩,by simp; omega⟩
     rw [List.take_append,List.take_of_length_le (by omega),h1]
   ·cases hp
theorem subp_ok {ps qs:List (Nat × AV)} {o n:Nat} {us:List Value} (h:Css w S ρ ps us) (hp:subp ps o n=some qs):Css w S ρ qs ((us.drop o).take n)∧o+n≤us.length:=by
 induction ps generalizing o us with
 | nil =>
  simp only [subp] at hp
  split at hp
  ·rename_i e; obtain ⟨rfl,rfl⟩:=e; injection hp with hp; subst hp; exact ⟨by simp [Css],Nat.zero_le _⟩
  ·cases hp
 | cons p ps ih =>
  obtain ⟨s',y⟩:=p
  simp only [subp] at hp
  split at hp
  ·rename_i e; subst e
   have:=tk_ok h hp
   simpa using this
  ·split at hp
   ·obtain ⟨u1,u2,rfl,h1,h2,h3⟩:=h
    obtain ⟨k1,k2⟩:=ih h3 hp
    refine ⟨?_,by simp; omega⟩
    rw [List.drop_append,List.drop_of_length_le (by omega),List.nil_append,h1]; exact k1
   ·cases hp
def rdP (rt:Rt) (ps:List (Nat × AV)) (o off:Nat):Option (AV × Prop) :=
 match rt with
 | .st n=>if off=0 then (subp ps o n).map fun q=>(.agg q,True) else none
 | .arr n=>if off=0 then match pt ps o with
  | some (s,.blob cs)=>if s=n then some (.blob cs,True) else none
  | _=>none else none
 | .one z=>match pt ps o with
  | some (_,.blob cs)=>some (ofC (cs.getD off (match z with | .int k _=>.int k 0 | _=>undef)),off<cs.length)
  | some (s,x)=>if off=0∧s=1∧x.multi=false then some (x,True) else none
  | none=>none
def Rt.size:Rt→Nat
 | .one _=>1
 | .arr n=>n
 | .st n=>n
def Rt.isAgg:Rt→Bool
 | .one _=>false
 | _=>true
theorem rdP_ok {rt:Rt} {ps:List (Nat × AV)} {o off:Nat} {x:AV} {p:Prop} {us:List Value} (h:Css w S ρ ps us) (hr:rdP rt ps o off=some (x,p)) (hp:p) :
  o+off+rt.size≤us.length∧Vl w S ρ x (if rt.isAgg then .agg ((us.drop (o+off)).take rt.size).toArray else us.getD (o+off) undef):=by
 unfold rdP at hr
 split at hr
 ·split at hr
  ·rename_i n e; subst e
   cases hq:subp ps o n with
   | none=>rw [hq] at hr; cases hr
   | some q =>
    rw [hq] at hr; injection hr with hr; injection hr with e1 e2; subst e1
    obtain ⟨k1,k2⟩:=subp_ok h hq
    exact ⟨k2,Vl.agg' k1.cs⟩
  ·cases hr
 ·split at hr
  ·rename_i n e; subst e
   split at hr
   ·rename_i s cs hq
    split at hr
    ·rename_i e; subst e; injection hr with hr; injection hr with e1 e2; subst e1
     obtain ⟨k1,k2⟩:=pt_ok h hq
     refine ⟨k2,?_⟩
     simp only [Rt.isAgg,Rt.size,if_true,Nat.add_zero]
     generalize List.take s (List.drop o us)=vs at k1
     cases k1 with
     | blob _ h=>exact Vl.blob' _ h
    ·cases hr
   ·cases hr
  ·cases hr
 ·rename_i z
  split at hr
  ·rename_i s cs hq
   injection hr with hr; injection hr with e1 e2; subst e1 e2
   obtain ⟨k1,k2⟩:=pt_ok h hq
   generalize hv:(us.drop o).take s=vs at k1
   cases k1 with
   | blob =>
    have hl:cs.length≤s:=by rw [← hv,List.length_take]; omega
    have h1:us.getD (o+off) undef=cs.getD off (match z with | .int k _=>.int k 0 | _=>undef):=by
     rw [List.getD_eq_getElem?_getD,List.getD_eq_getElem?_getD,← hv,List.getElem?_take,if_pos (by omega),List.getElem?_drop,List.getElem?_eq_getElem (by omega)]
     rfl
    refine ⟨by simp only [Rt.size]; omega,?_⟩
    simp only [Rt.isAgg,Bool.false_eq_true,if_false,h1]
    exact vl_ofC _
  ·rename_i s y _ hq
   split at hr
   ·rename_i e; obtain ⟨rfl,rfl,hm⟩:=e
    injection hr with hr; injection hr with e1 e2; subst e1
    obtain ⟨k1,k2⟩:=pt_ok h hq
    refine ⟨k2,?_⟩
    simp only [Rt.isAgg,Bool.false_eq_true,if_false,Nat.add_zero]
    have h1:(us.drop o).take 1=[us.getD o undef]:=by
     rw [List.drop_eq_getElem_cons (by omega),List.getD_eq_getElem?_getD,List.getElem?_eq_getElem (by omega)]; rfl
    rw [h1] at k1
    have h2:Vl1 w S ρ y (us.getD o undef):=.inr ⟨_,k1,by unfold wrapv; rw [hm]; rfl⟩
    refine Vl.of1 (fun xs e=>?_) h2
    subst e
    cases k1
   ·cases hr
  ·cases hr
end
end Go.Proofs.YtakolikdebfkeaaDoor
namespace Go.Proofs.YtakolikdebfkeaaDoor
open Go.RowKit
def inI (n:Int):Prop := -9223372036854775808≤n∧n≤9223372036854775807
theorem wrap_inI {n:Int} (h:inI n):IntKind.i64.wrap n=n:=by
 unfold inI at h
 exact IntWalk.i64_in n (by omega)
def arI (k:IntKind) (n:Int) (p:Prop):AV × Prop :=
 match k with
 | .i64=>(.int .i64 n,p∧inI n)
 | k=>(.int k (k.wrap n),p)
theorem arI_ok {w:World} {S:Nat→Prop} {ρ:Rho} {k:IntKind} {n:Int} {p:Prop} (h:(arI k n p).2):p∧Vl w S ρ (arI k n p).1 (.int k (k.wrap n)):=by
 cases k
 case i64=>exact ⟨h.1,by have:=wrap_inI h.2; unfold arI; simp only; rw [this]; exact Vl.int' _ _⟩
 all_goals exact ⟨h,Vl.int' _ _⟩
def aInt (op:BinOp) (k:IntKind) (a b:Int):Option (AV × Prop) :=
 match op with
 | .add=>some (arI k (a+b) True)
 | .sub=>some (arI k (a - b) True)
 | .mul=>some (arI k (a * b) True)
 | .quo=>some (arI k (a.tdiv b) (b≠0))
 | .rem=>some (.int k (a.tmod b),b≠0)
 | .and=>some (.int k (bits .and k a b),True)
 | .or=>some (.int k (bits .or k a b),True)
 | .xor=>some (.int k (bits .xor k a b),True)
 | .andNot=>some (.int k (bits .andNot k a b),True)
 | .eql=>some (.bool (decide (a=b)),True)
 | .neq=>some (.bool (!decide (a=b)),True)
 | .lss=>some (.bool (decide (a<b)),True)
 | .leq=>some (.bool (decide (a≤b)),True)
 | .gtr=>some (.bool (decide (b<a)),True)
 | .geq=>some (.bool (decide (b≤a)),True)
 | _=>none
def lenOk (n:Nat):Prop:=n≤9223372036854775807
def bytesOk (n:Nat):Prop:=n≤140737488355328
theorem lenOk_1:lenOk 1=True:=eq_true (by unfold lenOk; omega)
theorem lenOk_2:lenOk 2=True:=eq_true (by unfold lenOk; omega)
theorem lenOk_3:lenOk 3=True:=eq_true (by unfold lenOk; omega)
theorem lenOk_4:lenOk 4=True:=eq_true (by unfold lenOk; omega)
theorem lenOk_0:lenOk 0=True:=eq_true (by unfold lenOk; omega)
theorem lenOk_8:lenOk 8=True:=eq_true (by unfold lenOk; omega)
def aStr (op:BinOp) (a b:List UInt8):Option (AV × Prop) :=
 match op with
 | .add=>some (.str (a ++ b),lenOk (a.length+b.length))
 | .eql=>some (.bool (decide (a=b)),True)
 | .neq=>some (.bool (!decide (a=b)),True)
 | .lss=>some (.bool (Op.bytesLess a b),True)
 | .leq=>some (.bool (Op.bytesLess a b || decide (a=b)),True)
 | .gtr=>some (.bool (!(Op.bytesLess a b || decide (a=b))),True)
 | .geq=>some (.bool (!Op.bytesLess a b),True)
 | _=>none
def aBin (op:BinOp) (x y:AV):Option (AV × Prop) :=
 match x,y with
 | .int k a,.int k' b =>
  match op with
  | .shl=>some (arI k (a * 2 ^ b.toNat) (0≤b))
  | .shr=>some (.int k (a / 2 ^ b.toNat),0≤b∧b≤k.bits)
  | _=>if k=k' then aInt op k a b else none
 | .str a,.str b=>aStr op a b
 | _,_=>none
section
variable {P : Program} {w : World} {S : Nat → Prop} {ρ : Rho}
theorem aInt_ok {op:BinOp} {k:IntKind} {a b:Int} {r:AV} {p:Prop} (h:aInt op k a b=some (r,p)) (hp:p) (hs:op≠.shl∧op≠.shr) (t:TypeId) :
  ∃ q,(binOp op t (.int k a) (.int k b)).run P w=.ok q w∧Vl w S ρ r q:=by
 have ar:∀ {n:Int} {p' : Prop},some (arI k n p')=some (r,p)→p' ∧ Vl w S ρ r (.int k (k.wrap n)):=by
  intro n p' e
  injection e with e
  have e1:(arI k n p').2=p:=by rw [e]
  have e2:(arI k n p').1=r:=by rw [e]
  rw [← e2]
  exact arI_ok (by rw [e1]; exact hp)
 cases op <;> simp only [aInt] at h <;> try (cases h; done)
 case add=>exact ⟨_,by simp [binOp,Op.intArith],(ar h).2⟩
 case sub=>exact ⟨_,by simp [binOp,Op.intArith],(ar h).2⟩
 case mul=>exact ⟨_,by simp [binOp,Op.intArith],(ar h).2⟩
 case quo=>exact ⟨_,by simp [binOp,Op.intDiv,(ar h).1],(ar h).2⟩
 case rem=>injection h with h; injection h with h1 h2; subst h1 h2; exact ⟨_,by simp [binOp,Op.intDiv,hp],Vl.int' _ _⟩
 all_goals (injection h with h; injection h with h1 h2; subst h1 h2)
 case and=>exact ⟨_,by simp [binOp,intBits_and],Vl.int' _ _⟩
 case or=>exact ⟨_,by simp [binOp,intBits_or],Vl.int' _ _⟩
 case xor=>exact ⟨_,by simp [binOp,intBits_xor],Vl.int' _ _⟩
 case andNot=>exact ⟨_,by simp [binOp,intBits_andNot],Vl.int' _ _⟩
 case eql =>
  have e1:(a == b)=decide (a=b):=by rw [Bool.eq_iff_iff]; simp
  exact ⟨.bool (a == b),by simp [binOp,Op.intCmp],by rw [e1]; exact Vl.bool' _⟩
 case neq =>
  have e1:(a != b)=!decide (a=b):=by rw [Bool.eq_iff_iff]; simp
  exact ⟨.bool (a != b),by simp [binOp,Op.intCmp],by rw [e1]; exact Vl.bool' _⟩
 case lss=>exact ⟨_,by simp [binOp,Op.intCmp],Vl.bool' _⟩
 case leq=>exact ⟨_,by simp [binOp,Op.intCmp],Vl.bool' _⟩
 case gtr=>exact ⟨_,by simp [binOp,Op.intCmp],Vl.bool' _⟩
 case geq=>exact ⟨_,by simp [binOp,Op.intCmp],Vl.bool' _⟩
theorem toList_mk (l:List UInt8):(⟨l.toArray⟩:ByteArray).toList=l:=by rw [ByteArray.toList_eq]
theorem aStr_ok {op:BinOp} {a b:List UInt8} {r:AV} {p:Prop} (h:aStr op a b=some (r,p)) (hp:p) (t:TypeId) :
  ∃ q,(binOp op t (.string ⟨a.toArray⟩) (.string ⟨b.toArray⟩)).run P w=.ok q w∧Vl w S ρ r q:=by
 have e1:(decide (a=b))=(a == b):=by rw [Bool.eq_iff_iff]; simp
 have hb:∀ op,binOp op t (.string ⟨a.toArray⟩) (.string ⟨b.toArray⟩)=Op.stringOp op ⟨a.toArray⟩ ⟨b.toArray⟩:=fun op=>by cases op <;> simp [binOp]
 cases op <;> simp only [aStr] at h <;> try (cases h; done)
 all_goals (injection h with h; injection h with h1 h2; subst h1 h2)
 case add =>
  refine ⟨_,?_,Vl.str' _⟩
  rw [hb,run_string_add_sum _ _ _ (by simpa [ByteArray.size,lenOk] using hp),bytes_cat]
 case eql=>exact ⟨.bool (a == b),by rw [hb]; simp [Op.stringOp,toList_mk],by rw [← e1]; exact Vl.bool' _⟩
 case neq=>exact ⟨.bool (!(a == b)),by rw [hb]; simp [Op.stringOp,toList_mk],by rw [← e1]; exact Vl.bool' _⟩
 case lss=>exact ⟨.bool (Op.bytesLess a b),by rw [hb]; simp [Op.stringOp,toList_mk],Vl.bool' _⟩
 case leq=>exact ⟨.bool (Op.bytesLess a b || (a == b)),by rw [hb]; simp [Op.stringOp,toList_mk],by rw [← e1]; exact Vl.bool' _⟩
 case gtr=>exact ⟨.bool (!(Op.bytesLess a b || (a == b))),by rw [hb]; simp [Op.stringOp,toList_mk],by rw [← e1]; exact Vl.bool' _⟩
 case geq=>exact ⟨.bool (!Op.bytesLess a b),by rw [hb]; simp [Op.stringOp,toList_mk],Vl.bool' _⟩
theorem wrap_far (k:IntKind) (a:Int) (n:Nat) (h:k.bits≤n):k.wrap (a * 2 ^ k.bits)=k.wrap (a * 2 ^ n):=by
 obtain ⟨m,rfl⟩:∃ m,n=m+k.bits:=⟨n - k.bits,by omega⟩
 rw [Int.pow_add,← Int.mul_assoc]
 generalize a * 2 ^ m=c
 cases k <;> simp only [IntKind.wrap,IntKind.bits,IntKind.signed] <;> simp <;> omega
theorem shift_shl' (k k' : IntKind) (a b:Int) (h:0≤b):Op.shift .shl k a k' b=pure (.int k (k.wrap (a * 2 ^ b.toNat))):=by
 by_cases h2:b≤k.bits
 ·exact shift_shl k k' a b h h2
 ·have e:min b.toNat k.bits=k.bits:=by omega
  unfold Op.shift
  rw [if_neg (by omega),e,← wrap_far k a b.toNat (by omega)]
theorem aBin_ok {op:BinOp} {x y r:AV} {p:Prop} {v u:Value} (h:aBin op x y=some (r,p)) (hp:p) (hx:Vl w S ρ x v) (hy:Vl w S ρ y u) (t:TypeId) (X Y:Operand) :
  ∃ q,(do eqGuard op t X Y v u; binOp op t v u).run P w=.ok q w∧Vl w S ρ r q:=by
 cases x <;> try (simp only [aBin,reduceCtorEq] at h; done)
 case int k a =>
  cases y <;> try (simp only [aBin,reduceCtorEq] at h; done)
  case int k' b =>
   rw [hx.int,hy.int]
   have hg:eqGuard op t X Y (.int k a) (.int k' b)=pure ():=by cases op <;> rfl
   rw [hg]
   by_cases h1:op=.shl
   ·subst h1
    simp only [aBin] at h
    injection h with h
    have e1:(arI k (a * 2 ^ b.toNat) (0≤b)).2=p:=by rw [h]
    have e2:(arI k (a * 2 ^ b.toNat) (0≤b)).1=r:=by rw [h]
    obtain ⟨k1,k3⟩:=arI_ok (w:=w) (S:=S) (ρ:=ρ) (by rw [e1]; exact hp)
    rw [e2] at k3
    exact ⟨_,by simp [binOp,shift_shl' k k' a b k1],k3⟩
   ·by_cases h2:op=.shr
    ·subst h2
     simp only [aBin] at h
     injection h with h; injection h with e1 e2; subst e1 e2
     exact ⟨_,by simp [binOp,shift_shr k k' a b hp.1 hp.2],Vl.int' _ _⟩
    ·have h3:(if k=k' then aInt op k a b else none)=some (r,p):=by
      cases op <;> first | exact h | exact absurd rfl h1 | exact absurd rfl h2
     split at h3
     ·rename_i e; subst e
      obtain ⟨q,hq,hv⟩:=aInt_ok (P:=P) (w:=w) (S:=S) (ρ:=ρ) h3 hp ⟨h1,h2⟩ t
      exact ⟨q,by simpa using hq,hv⟩
     ·cases h3
 case str a =>
  cases y <;> try (simp only [aBin,reduceCtorEq] at h; done)
  case str b =>
   rw [hx.str,hy.str]
   have hg:eqGuard op t X Y (.string ⟨a.toArray⟩) (.string ⟨b.toArray⟩)=pure ():=by cases op <;> rfl
   rw [hg]
   obtain ⟨q,hq,hv⟩:=aStr_ok (P:=P) (w:=w) (S:=S) (ρ:=ρ) (op:=op) h hp t
   exact ⟨q,by simpa using hq,hv⟩
def aUn (op:UnOp) (x:AV):Option (AV × Prop) :=
 match op,x with
 | .not,.bool b=>some (.bool (!b),True)
 | .neg,.int k n=>some (arI k (-n) True)
 | .xor,.int k n=>some (.int k (bits .xor k (if k.signed then -1 else k.max) n),True)
 | _,_=>none
theorem aUn_ok {op:UnOp} {x r:AV} {p:Prop} {v:Value} (h:aUn op x=some (r,p)) (hp:p) (hx:Vl w S ρ x v):∃ q,(Op.unary op v).run P w=.ok q w∧Vl w S ρ r q:=by
 unfold aUn at h
 split at h
 ·injection h with h; injection h with e1 e2; subst e1 e2; rw [hx.bool]; exact ⟨_,by simp [Op.unary],Vl.bool' _⟩
 ·rename_i k n
  injection h with h
  have e1:(arI k (-n) True).2=p:=by rw [h]
  have e2:(arI k (-n) True).1=r:=by rw [h]
  have k3:=(arI_ok (w:=w) (S:=S) (ρ:=ρ) (k:=k) (n := -n) (p:=True) (by rw [e1]; exact hp)).2
  rw [e2] at k3
  rw [hx.int]
  exact ⟨_,by simp [Op.unary,Op.intArith],k3⟩
 ·injection h with h; injection h with e1 e2; subst e1 e2; rw [hx.int]; exact ⟨_,by simp [Op.unary,intBits_xor],Vl.int' _ _⟩
 ·cases h
def aToInt (k:IntKind) (x:AV):Option (AV × Prop) :=
 match x with
 | .int _ n=>some (arI k n True)
 | _=>none
theorem aToInt_ok {k:IntKind} {x r:AV} {p:Prop} {v:Value} (h:aToInt k x=some (r,p)) (hp:p) (hx:Vl w S ρ x v) {src dst:TypeId} (hs:(P.underlying src).isSome=true) (hd:P.underlying dst=some (.int k)) :
  ∃ q,(convert src dst v).run P w=.ok q w∧Vl w S ρ r q:=by
 unfold aToInt at h
 split at h
 ·rename_i k' n
  injection h with h
  have e1:(arI k n True).2=p:=by rw [h]
  have e2:(arI k n True).1=r:=by rw [h]
  have k3:=(arI_ok (w:=w) (S:=S) (ρ:=ρ) (k:=k) (n:=n) (p:=True) (by rw [e1]; exact hp)).2
  rw [e2] at k3
  rw [hx.int]
  obtain ⟨d,hd2⟩:=Option.isSome_iff_exists.1 hs
  exact ⟨_,by simp [convert,run_underlying hd2,run_underlying hd,Conv.intToInt],k3⟩
 ·cases h
def toB:AV→UInt8
 | .int _ n=>UInt8.ofNat n.toNat
 | _=>0
def unB (xs:List AV):List UInt8:=xs.map toB
theorem toB_ub (u:UInt8):toB (ub u)=u:=by unfold toB ub; simp
theorem unB_Bs (l:List UInt8):unB (Bs l)=l:=by
 unfold unB Bs; rw [List.map_map]
 have:(toB∘ub)=id:=by funext u; exact toB_ub u
 rw [this,List.map_id]
theorem Mem.rd {sz:Nat} {l:List UInt8} {A:Option Addr} {n c:Nat} {us:List Value} (h:Mem w S sz (Bs l) A n c us):Rd w A l∧n=l.length:=by
 refine ⟨fun hl=>?_,by rw [h.len,Bs_length]⟩
 have h1:us=l.map U:=by
  have hc:=h.css
  have hsz:sz=1:=by
   cases l with
   | nil=>simp at hl
   | cons u l =>
    obtain ⟨u1,u2,_,h2,h3,_⟩:=hc
    rw [← h2]; cases h3; rfl
  subst hsz
  exact css_bytes_eq hc
 obtain ⟨b,o,hA,hc⟩:=h.cell (by rw [h1,List.length_map]; exact hl)
 refine ⟨b,o,hA,fun k hk=>?_⟩
 rw [hc k (by rw [h1,List.length_map]; exact hk),h1,List.getElem?_map,List.getElem?_eq_getElem hk]
 simp [at8_get]
end
end Go.Proofs.YtakolikdebfkeaaDoor
namespace Go.Proofs.YtakolikdebfkeaaDoor
open Go.RowKit
section
variable {P : Program} {F : Nat → Prop} {w0 w : World} {S : Nat → Prop} {ρ : Rho} {hp : List AObj}
def aToStr (hp:List AObj) (x:AV):Option (AV × Prop) :=
 match view hp 1 x with
 | some xs=>some (.str (unB xs),xs=Bs (unB xs))
 | none=>none
theorem aToStr_ok (H:ObsOk w S ρ hp) {x r:AV} {p:Prop} {v:Value} (h:aToStr hp x=some (r,p)) (hp' : p) (hx:Vl w S ρ x v) {src dst e:TypeId} (hs:P.underlying src=some (.slice e)) (he:P.underlying e=some (.int .u8)) (hd:P.underlying dst=some .string) :
  ∃ q,(convert src dst v).run P w=.ok q w∧Vl w S ρ r q:=by
 unfold aToStr at h
 split at h
 ·rename_i xs hv
  injection h with h; injection h with e1 e2; subst e1 e2
  obtain ⟨A,n,c,us,rfl,hM⟩:=view_ok H hv hx
  rw [hp'] at hM
  obtain ⟨h1,h2⟩:=hM.rd
  exact ⟨_,run_str w hs he h1 h2 hd,Vl.str' _⟩
 ·cases h
def aIdxS (x i:AV):Option (AV × Prop) :=
 match x,i with
 | .str l,.int _ n=>some (.int .u8 (at8 l n.toNat),0≤n∧n<l.length)
 | _,_=>none
theorem aIdxS_ok {x i r:AV} {p:Prop} {v u:Value} (h:aIdxS x i=some (r,p)) (hp' : p) (hx:Vl w S ρ x v) (hi:Vl w S ρ i u) {t:TypeId} (ht:P.underlying t=some .string) :
  ∃ q,(Instr.index t v u).run P w=.ok q w∧Vl w S ρ r q:=by
 unfold aIdxS at h
 split at h
 ·rename_i l k n
  injection h with h; injection h with e1 e2; subst e1 e2
  rw [hx.str,hi.int]
  have hlen:(⟨l.toArray⟩:ByteArray).size=l.length:=rfl
  obtain ⟨h0,h1⟩:=hp'
  refine ⟨.int .u8 (at8 l n.toNat),?_,Vl.int' _ _⟩
  rw [run_index_string _ _ _ _ _ ht,dif_pos ⟨h0,by rw [hlen]; exact h1⟩]
  have e2:(⟨l.toArray⟩:ByteArray)[n.toNat]'(by rw [hlen]; omega)=l.getD n.toNat 0:=by
   rw [List.getD_eq_getElem?_getD,List.getElem?_eq_getElem (by omega)]; rfl
  rw [e2]; rfl
 ·cases h
def zv (z:AV):Value :=
 match z with
 | .int k _=>.int k 0
 | _=>undef
def aIdxA (n:Nat) (z:AV) (x i:AV):Option (AV × Prop) :=
 match x,i with
 | .blob cs,.int _ k=>some (ofC (cs.getD k.toNat (zv z)),0≤k∧k<n∧k<cs.length)
 | _,_=>none
theorem aIdxA_ok {n:Nat} {z x i r:AV} {p:Prop} {v u:Value} (h:aIdxA n z x i=some (r,p)) (hp' : p) (hx:Vl w S ρ x v) (hi:Vl w S ρ i u) {t e:TypeId} (ht:P.underlying t=some (.array n e)) (hsz:(P.info? e).map (·.size)=some 1)
  (hag:(match P.underlying e with | some (.struct _) | some (.array _ _) | none=>false | _=>true)=true) :
  ∃ q,(Instr.index t v u).run P w=.ok q w∧Vl w S ρ r q:=by
 unfold aIdxA at h
 split at h
 ·rename_i cs k m
  injection h with h; injection h with e1 e2; subst e1 e2
  rw [hx.blob,hi.int]
  obtain ⟨h0,h1,h2⟩:=hp'
  refine ⟨cs.getD m.toNat (zv z),?_,vl_ofC _⟩
  obtain ⟨i,hi1,hi2⟩:=Option.map_eq_some_iff.1 hsz
  have hpart:(part e cs.toArray m.toNat).run P w=.ok (cs.getD m.toNat (zv z)) w:=by
   have hg:cs.toArray[m.toNat]?=some (cs.getD m.toNat (zv z)):=by
    rw [List.getElem?_toArray,List.getD_eq_getElem?_getD,List.getElem?_eq_getElem (by omega)]; rfl
   have hag' : (isAgg e).run P w=.ok false w:=by
    cases hu:P.underlying e with
    | none=>rw [hu] at hag; cases hag
    | some d =>
     rw [hu] at hag
     simp only [isAgg,Sem.run_bind,run_underlying hu,Result.andThen_ok]
     cases d <;> first | rfl | cases hag
   simp [part,hag',hg]
  simp [Instr.index,asIntOf,run_underlying ht,h0,h1,sizeOf,typeInfo,hi1,hi2,hpart]
 ·cases h
def aIa (hp:List AObj) (sz:Nat) (z:AV) (x i:AV):Option (AV × Prop) :=
 match i with
 | .int _ k=>match x with
  | .sl s xs=>if s=sz then some (.ptr sz (xs.getD k.toNat z) 0 0,0≤k∧k<xs.length) else none
  | .own id v=>match hp[id]? with
   | some (.row _ s v' xs)=>if v=v' ∧ s=sz then some (.rowp id v k.toNat z 0 0,0≤k∧k<xs.length) else none
   | some (.froz s v' xs)=>if v=v' ∧ s=sz then some (.ptr sz (xs.getD k.toNat z) 0 0,0≤k∧k<xs.length) else none
   | _=>none
  | .ownv id v j m=>match hp[id]? with
   | some (.row _ s v' xs)=>if v=v' ∧ s=sz then some (.rowp id v (j+k.toNat) z 0 0,0≤k∧k<m∧j+m≤xs.length) else none
   | _=>none
  | .arv id o n lo m=>if sz=1 then some (.ref id o (lo+k.toNat),0≤k∧k<m) else none
  | .arw id v j z o n lo m=>if sz=1 then some (.rowp id v j z o (lo+k.toNat),0≤k∧k<m) else none
  | _=>none
 | _=>none
theorem run_indexAt_sl {t e:TypeId} {sz:Nat} (ht:P.underlying t=some (.slice e)) (hsz:(P.info? e).map (·.size)=some sz) (ad:Addr) (n c:Nat) (k:IntKind) (i:Int) (h0:0≤i) (h1:i<n) :
  (Instr.indexAt t (.slice (some ad) n c) (.int k i)).run P w=.ok (.pointer (some (ad.add (i.toNat * sz)))) w:=by
 obtain ⟨j,hj1,hj2⟩:=Option.map_eq_some_iff.1 hsz
 simp [Instr.indexAt,asIntOf,run_underlying ht,h0,h1,sizeOf,typeInfo,hj1,hj2]
theorem Mem.ptr {sz:Nat} {xs:List AV} {b o c:Nat} {us:List Value} (hS:S b) (hc:Css w S rho0 (prs sz xs) us) (hcell:∀ j,j<us.length→w.cell? ⟨b,o+j,none⟩=us[j]?) (z:AV) (k:Nat) (hk:k<xs.length) :
  Vl w S ρ (.ptr sz (xs.getD k z) 0 0) (.pointer (some (Addr.add ⟨b,o,none⟩ (k * sz)))):=by
 have hx:xs[k]?=some (xs.getD k z):=by rw [List.getD_eq_getElem?_getD,List.getElem?_eq_getElem hk]; rfl
 obtain ⟨h1,h2⟩:=hc.elem hx
 have hl:((us.drop (k * sz)).take sz).length=sz:=by rw [List.length_take,List.length_drop]; omega
 rw [add_spot]
 refine .inr ⟨[_],?_,rfl⟩
 refine .ptr sz _ 0 0 _ b (o+k * sz) hS h1 hl fun j hj=>?_
 rw [hl] at hj
 rw [List.getElem?_take,if_pos hj,List.getElem?_drop,← hcell _ (by omega),Nat.add_assoc]
theorem aIa_ok (H:ObsOk w S ρ hp) {sz:Nat} {z x i r:AV} {p:Prop} {v u:Value} (h:aIa hp sz z x i=some (r,p)) (hp' : p) (hx:Vl w S ρ x v) (hi:Vl w S ρ i u) {t e:TypeId} (ht:P.underlying t=some (.slice e)) (hsz:(P.info? e).map (·.size)=some sz) :
  ∃ q,(Instr.indexAt t v u).run P w=.ok q w∧Vl w S ρ r q:=by
 have stable:∀ {xs:List AV} {v:Value} {k:Int} {kk:IntKind},Cs w S ρ (.sl sz xs) [v]→0≤k→k<xs.length→∃ q,(Instr.indexAt t v (.int kk k)).run P w=.ok q w∧Vl w S ρ (.ptr sz (xs.getD k.toNat z) 0 0) q:=by
  intro xs v k kk hc h0 h1
  have:∀ x vs,Cs w S ρ x vs→x=.sl sz xs→vs=[v]→∃ us b o c,S b∧Css w S rho0 (prs sz xs) us∧(∀ j,j<us.length→w.cell? ⟨b,o+j,none⟩=us[j]?)∧v=.slice (some ⟨b,o,none⟩) xs.length c:=by
   intro x vs hc
   cases hc with
   | sl0=>intro e; cases e; simp at h1; omega
   | sl s ys us b o c hS k1 k2 k3 k4 k5=>intro e ev; cases e; cases ev; exact ⟨us,b,o,c,hS,k1.parts,k3,rfl⟩
   | _=>intro e; cases e
  obtain ⟨us,b,o,c,hS,hcs,hcell,rfl⟩:=this _ _ hc rfl rfl
  exact ⟨_,run_indexAt_sl ht hsz _ _ _ _ _ h0 h1,Mem.ptr hS hcs hcell z k.toNat (by omega) (c:=c)⟩
 unfold aIa at h
 split at h
 ·rename_i kk k
  rw [hi.int]
  split at h
  ·rename_i s xs
   split at h
   ·rename_i e; subst e; injection h with h; injection h with e1 e2; subst e1 e2
    exact stable hx.sl hp'.1 hp'.2
   ·cases h
  ·rename_i id ver
   obtain ⟨L,hL,rfl⟩:=hx.own
   split at h
   ·rename_i e' s v' xs ho
    split at h
    ·rename_i e; obtain ⟨rfl,rfl⟩:=e; injection h with h; injection h with e1 e2; subst e1 e2
     obtain ⟨L',us,h1,h2,h3,h4,h5,h6⟩:=H _ _ ho (by simp)
     rw [hL] at h1; injection h1 with h1; subst h1
     obtain ⟨hl,h4⟩:=h4
     rcases h4 with ⟨k1,k2,k3⟩ | ⟨g,cur,fr,k1,k2,k3,k4,k5,k6,k7⟩
     ·omega
     ·rw [k1]
      refine ⟨_,run_indexAt_sl ht hsz _ _ _ _ _ hp'.1 (by omega),?_⟩
      rw [add_spot,Nat.zero_add]
      have:=Cs.rowp (w:=w) (S:=S) id ver k.toNat z 0 0 g L hL k1
      rw [h3] at this
      exact .inr ⟨_,this,rfl⟩
    ·cases h
   ·rename_i s v' xs ho
    split at h
    ·rename_i e; obtain ⟨rfl,rfl⟩:=e; injection h with h; injection h with e1 e2; subst e1 e2
     obtain ⟨L',h1,h2,h3,h4⟩:=H _ _ ho (by simp)
     rw [hL] at h1; injection h1 with h1; subst h1
     exact stable (h4.ext (fun _ _=>rfl) (fun _ h=>h) (fun _ _ _ h=>by cases h)) hp'.1 hp'.2
    ·cases h
   ·cases h
  ·rename_i id ver j m
   obtain ⟨L,A0,hL,hm,hA0,rfl⟩:=hx.ownv
   split at h
   ·rename_i e' s v' xs ho
    split at h
    ·rename_i e; obtain ⟨rfl,rfl⟩:=e; injection h with h; injection h with e1 e2; subst e1 e2
     obtain ⟨L',us,h1,h2,h3,h4,h5,h6⟩:=H _ _ ho (by simp)
     rw [hL] at h1; injection h1 with h1; subst h1
     obtain ⟨hl,h4⟩:=h4
     obtain ⟨p0,p1,p2⟩:=hp'
     rcases h4 with ⟨k1,k2,k3⟩ | ⟨g,cur,fr,k1,k2,k3,k4,k5,k6,k7⟩
     ·omega
     ·have hcut:A0=some ⟨g,j * s,none⟩:=by
       rw [hA0 (.inl (by omega))]
       unfold cutA
       rw [k1,if_neg (by omega),h3]; simp [add_spot]
      rw [hcut]
      refine ⟨_,run_indexAt_sl ht hsz _ _ _ _ _ p0 (by omega),?_⟩
      rw [add_spot]
      have:=Cs.rowp (w:=w) (S:=S) id ver (j+k.toNat) z 0 0 g L hL k1
      rw [h3,Nat.add_mul] at this
      exact .inr ⟨_,this,rfl⟩
    ·cases h
   ·cases h
  ·rename_i id o n lo m
   split at h
   ·rename_i e; subst e
    obtain ⟨g,L,hL,hA,hm,hn,rfl⟩:=hx.arv
    injection h with h; injection h with e1 e2; subst e1 e2
    refine ⟨_,run_indexAt_sl ht hsz _ _ _ _ _ hp'.1 hp'.2,?_⟩
    rw [add_spot,Nat.mul_one]
    have:=Cs.ref (w:=w) (S:=S) id o (lo+k.toNat) g L hL hA
    rw [← Nat.add_assoc] at this
    exact .inr ⟨_,this,rfl⟩
   ·cases h
  ·rename_i id ver j z' o n lo m
   split at h
   ·rename_i e; subst e
    obtain ⟨g,L,hL,hA,hi',hm,hn,rfl⟩:=hx.arw
    injection h with h; injection h with e1 e2; subst e1 e2
    refine ⟨_,run_indexAt_sl ht hsz _ _ _ _ _ hp'.1 hp'.2,?_⟩
    rw [add_spot,Nat.mul_one]
    have:=Cs.rowp (w:=w) (S:=S) id ver j z' o (lo+k.toNat) g L hL hA
    rw [show j * L.sz+(o+(lo+k.toNat))=j * L.sz+(o+lo)+k.toNat by omega] at this
    exact .inr ⟨_,this,rfl⟩
   ·cases h
  ·cases h
 ·cases h
def aIaA (n:Nat) (x i:AV):Option (AV × Prop) :=
 match x,i with
 | .ref id o 0,.int _ k=>some (.ref id o k.toNat,0≤k∧k<n)
 | .ptr sz x o 0,.int _ k=>some (.ptr sz x o k.toNat,0≤k∧k<n)
 | .rowp id v j z o 0,.int _ k=>some (.rowp id v j z o k.toNat,0≤k∧k<n)
 | _,_=>none
theorem Vl.ref {id o off:Nat} {v:Value} (h:Vl w S ρ (.ref id o off) v):∃ g L,ρ id 0=some L∧L.A=some ⟨g,0,none⟩∧v=.pointer (some ⟨g,o+off,none⟩):=by
 rcases h with h | ⟨us,h,e⟩
 ·cases h
 ·cases h with
  | ref _ _ _ g L h1 h2=>exact ⟨g,L,h1,h2,e⟩
theorem Vl.ptr {sz:Nat} {x:AV} {o off:Nat} {v:Value} (h:Vl w S ρ (.ptr sz x o off) v):∃ us b base,S b∧Cs w S rho0 x us∧us.length=sz∧(∀ j,j<us.length→w.cell? ⟨b,base+j,none⟩=us[j]?)∧v=.pointer (some ⟨b,base+(o+off),none⟩):=by
 rcases h with h | ⟨us,h,e⟩
 ·cases h
 ·cases h with
  | ptr _ _ _ _ us b base h1 h2 h3 h4=>exact ⟨us,b,base,h1,h2,h3,h4,e⟩
theorem Vl.rowp {id ver i:Nat} {z:AV} {o off:Nat} {v:Value} (h:Vl w S ρ (.rowp id ver i z o off) v):∃ g L,ρ id ver=some L∧L.A=some ⟨g,0,none⟩∧v=.pointer (some ⟨g,i * L.sz+(o+off),none⟩):=by
 rcases h with h | ⟨us,h,e⟩
 ·cases h
 ·cases h with
  | rowp _ _ _ _ _ _ g L h1 h2=>exact ⟨g,L,h1,h2,e⟩
theorem run_indexAt_ar {t e:TypeId} {n:Nat} (ht:P.underlying t=some (.array n e)) (hsz:(P.info? e).map (·.size)=some 1) (ad:Addr) (k:IntKind) (i:Int) (h0:0≤i) (h1:i<n) :
  (Instr.indexAt t (.pointer (some ad)) (.int k i)).run P w=.ok (.pointer (some (ad.add i.toNat))) w:=by
 obtain ⟨j,hj1,hj2⟩:=Option.map_eq_some_iff.1 hsz
 simp [Instr.indexAt,asIntOf,run_underlying ht,h0,h1,sizeOf,typeInfo,hj1,hj2,Instr.sureAddr]
theorem aIaA_ok {n:Nat} {x i r:AV} {p:Prop} {v u:Value} (h:aIaA n x i=some (r,p)) (hp' : p) (hx:Vl w S ρ x v) (hi:Vl w S ρ i u) {t e:TypeId} (ht:P.underlying t=some (.array n e)) (hsz:(P.info? e).map (·.size)=some 1) :
  ∃ q,(Instr.indexAt t v u).run P w=.ok q w∧Vl w S ρ r q:=by
 unfold aIaA at h
 split at h
 ·injection h with h; injection h with e1 e2; subst e1 e2
  obtain ⟨g,L,h1,h2,rfl⟩:=hx.ref
  rw [hi.int]
  refine ⟨_,run_indexAt_ar ht hsz _ _ _ hp'.1 hp'.2,?_⟩
  rw [add_spot]
  exact .inr ⟨_,.ref _ _ _ g L h1 h2,rfl⟩
 ·injection h with h; injection h with e1 e2; subst e1 e2
  obtain ⟨us,b,base,h1,h2,h3,h4,rfl⟩:=hx.ptr
  rw [hi.int]
  refine ⟨_,run_indexAt_ar ht hsz _ _ _ hp'.1 hp'.2,?_⟩
  rw [add_spot,Nat.add_zero,Nat.add_assoc]
  exact .inr ⟨_,.ptr _ _ _ _ us b base h1 h2 h3 h4,rfl⟩
 ·injection h with h; injection h with e1 e2; subst e1 e2
  obtain ⟨g,L,h1,h2,rfl⟩:=hx.rowp
  rw [hi.int]
  refine ⟨_,run_indexAt_ar ht hsz _ _ _ hp'.1 hp'.2,?_⟩
  rw [add_spot,Nat.add_zero,Nat.add_assoc]
  exact .inr ⟨_,.rowp _ _ _ _ _ _ g L h1 h2,rfl⟩
 ·cases h
def aFa (d:Nat) (x:AV):Option (AV × Prop) :=
 match x with
 | .ref id o 0=>some (.ref id (o+d) 0,True)
 | .ptr sz x o 0=>some (.ptr sz x (o+d) 0,True)
 | .rowp id v j z o 0=>some (.rowp id v j z (o+d) 0,True)
 | _=>none
theorem run_fieldAt {t:TypeId} {fs:Array Field} {k:Nat} {f:Field} (ht:P.underlying t=some (.struct fs)) (hk:fs[k]?=some f) (hsz:(P.info? f.type).map (fun i=>decide (i.size=0))=some false) (ad:Addr) :
  (Instr.fieldAt t (.pointer (some ad)) k).run P w=.ok (.pointer (some (ad.add f.offset))) w:=by
 obtain ⟨j,hj1,hj2⟩:=Option.map_eq_some_iff.1 hsz
 have hj3:¬ j.size=0:=by simpa using hj2
 simp [Instr.fieldAt,run_underlying ht,hk,Instr.sureAddr,fieldPlace,sizeOf,typeInfo,hj1,hj3]
theorem aFa_ok {x r:AV} {p:Prop} {v:Value} {t:TypeId} {fs:Array Field} {k:Nat} {f:Field} (h:aFa f.offset x=some (r,p)) (hx:Vl w S ρ x v) (ht:P.underlying t=some (.struct fs)) (hk:fs[k]?=some f) (hsz:(P.info? f.type).map (fun i=>decide (i.size=0))=some false) :
  ∃ q,(Instr.fieldAt t v k).run P w=.ok q w∧Vl w S ρ r q:=by
 unfold aFa at h
 split at h
 ·injection h with h; injection h with e1 e2; subst e1 e2
  obtain ⟨g,L,h1,h2,rfl⟩:=hx.ref
  refine ⟨_,run_fieldAt ht hk hsz _,?_⟩
  rw [add_spot,Nat.add_zero]
  exact .inr ⟨_,.ref _ _ 0 g L h1 h2,rfl⟩
 ·injection h with h; injection h with e1 e2; subst e1 e2
  obtain ⟨us,b,base,h1,h2,h3,h4,rfl⟩:=hx.ptr
  refine ⟨_,run_fieldAt ht hk hsz _,?_⟩
  rw [add_spot,Nat.add_zero,Nat.add_assoc]
  exact .inr ⟨_,.ptr _ _ _ 0 us b base h1 h2 h3 h4,rfl⟩
 ·injection h with h; injection h with e1 e2; subst e1 e2
  obtain ⟨g,L,h1,h2,rfl⟩:=hx.rowp
  refine ⟨_,run_fieldAt ht hk hsz _,?_⟩
  rw [add_spot,Nat.add_zero,Nat.add_assoc]
  exact .inr ⟨_,.rowp _ _ _ _ _ 0 g L h1 h2,rfl⟩
 ·cases h
end
end Go.Proofs.YtakolikdebfkeaaDoor
namespace Go.Proofs.YtakolikdebfkeaaDoor
open Go.RowKit
section
variable {P : Program} {F : Nat → Prop} {w0 w : World} {S : Nat → Prop} {ρ : Rho} {hp : List AObj}
def RtOk (P:Program) (t:TypeId) (rt:Rt):Prop :=
 (P.info? t).map (·.size)=some rt.size∧(match P.underlying t with | some (.struct _) | some (.array _ _)=>some true | some _=>some false | none=>none)=some rt.isAgg
theorem RtOk.agg {t:TypeId} {rt:Rt} (h:RtOk P t rt) (w:World):(isAgg t).run P w=.ok rt.isAgg w:=by
 obtain ⟨_,h⟩:=h
 cases hu:P.underlying t with
 | none=>rw [hu] at h; cases h
 | some d =>
  rw [hu] at h
  simp only [isAgg,Sem.run_bind,run_underlying hu,Result.andThen_ok]
  cases d <;> (injection h with h; rw [← h]; rfl)
theorem RtOk.size {t:TypeId} {rt:Rt} (h:RtOk P t rt) (w:World):(sizeOf t).run P w=.ok rt.size w:=by
 obtain ⟨h,_⟩:=h
 obtain ⟨j,hj1,hj2⟩:=Option.map_eq_some_iff.1 h
 simp [sizeOf,typeInfo,hj1,hj2]
theorem run_loadVar_cells {t:TypeId} {rt:Rt} (h:RtOk P t rt) (b o:Nat) (us:List Value) (hl:us.length=rt.size) (hc:∀ j,j<us.length→w.cell? ⟨b,o+j,none⟩=us[j]?) :
  (loadVar t ⟨b,o,none⟩).run P w=.ok (if rt.isAgg then .agg us.toArray else us.getD 0 undef) w:=by
 unfold loadVar
 simp only [Sem.run_bind,h.agg,Result.andThen_ok]
 have hcells:∀ j v,us[j]?=some v→w.cell? ((⟨b,o,none⟩:Addr).add j)=some v:=by
  intro j v hj
  rw [add_spot,hc j (List.getElem?_eq_some_iff.1 hj).1,hj]
 cases hag:rt.isAgg with
 | true =>
  simp only [if_true,Sem.run_bind,h.size,Result.andThen_ok,← hl,run_loadCells_list (P:=P) w _ us hcells,Sem.run_pure]
 | false =>
  simp only [Bool.false_eq_true,if_false]
  have h1:rt.size=1:=by cases rt <;> first | rfl | cases hag
  have h0:=hc 0 (by omega)
  rw [Nat.add_zero,List.getElem?_eq_getElem (by omega)] at h0
  simp [load,Sem.run,h0,List.getD_eq_getElem?_getD,List.getElem?_eq_getElem (show 0<us.length by omega)]
def Rt.zv:Rt→AV
 | .one z=>z
 | _=>.top
theorem Css.single {x:AV} {us:List Value} (h:Cs w S ρ x us) {sz:Nat} (hl:us.length=sz):Css w S ρ (pparts sz x) us:=by
 cases x
 case agg ps=>exact h.parts
 all_goals exact ⟨us,[],by simp,hl,h,rfl⟩
def aLd (hp:List AObj) (rt:Rt) (x:AV):Option (AV × Prop) :=
 match x with
 | .ref id o off=>match hp[id]? with
  | some (.cells _ ps)=>rdP rt ps o off
  | _=>none
 | .ptr sz x o off=>rdP rt (pparts sz x) o off
 | .rowp id v i z o off=>match hp[id]? with
  | some (.row _ s v' xs)=>if v=v' then (rdP rt (pparts s (xs.getD i z)) o off).map fun (q:AV × Prop)=>(q.1,q.2∧i<xs.length) else none
  | _=>none
 | _=>none
theorem ld_of_css {rt:Rt} {ps:List (Nat × AV)} {o off:Nat} {r:AV} {p:Prop} {us:List Value} (h:Css w S ρ ps us) (hr:rdP rt ps o off=some (r,p)) (hp' : p) {t:TypeId} (ht:RtOk P t rt) {b base:Nat}
  (hc:∀ j,j<us.length→w.cell? ⟨b,base+j,none⟩=us[j]?):∃ q,(loadVar t ⟨b,base+(o+off),none⟩).run P w=.ok q w∧Vl w S ρ r q:=by
 obtain ⟨h1,h2⟩:=rdP_ok h hr hp'
 have hl:((us.drop (o+off)).take rt.size).length=rt.size:=by rw [List.length_take,List.length_drop]; omega
 refine ⟨_,run_loadVar_cells ht b _ ((us.drop (o+off)).take rt.size) hl fun j hj=>?_,?_⟩
 ·rw [hl] at hj
  rw [List.getElem?_take,if_pos hj,List.getElem?_drop,← hc _ (by omega),Nat.add_assoc]
 ·cases hag:rt.isAgg with
  | true=>rw [hag] at h2; exact h2
  | false =>
   rw [hag] at h2
   have h1' : rt.size=1:=by cases rt <;> first | rfl | cases hag
   simp only [Bool.false_eq_true,if_false] at h2 ⊢
   have:((us.drop (o+off)).take rt.size).getD 0 undef=us.getD (o+off) undef:=by
    rw [List.getD_eq_getElem?_getD,List.getD_eq_getElem?_getD,List.getElem?_take,if_pos (by omega),List.getElem?_drop,Nat.add_zero]
   rw [this]; exact h2
theorem Vl.rho {x:AV} {v:Value} (h:Vl w S rho0 x v):Vl w S ρ x v:=h.ext ⟨fun _ _=>rfl,fun _ h=>h,fun _ _ _ h=>by cases h⟩
theorem aLd_ok (H:ObsOk w S ρ hp) {rt:Rt} {x r:AV} {p:Prop} {v:Value} (h:aLd hp rt x=some (r,p)) (hp' : p) (hx:Vl w S ρ x v) {t:TypeId} (ht:RtOk P t rt) :
  ∃ q,(Instr.loadAt t v).run P w=.ok q w∧Vl w S ρ r q:=by
 have go:∀ {ad:Addr} {q:Value},(loadVar t ad).run P w=.ok q w→(Instr.loadAt t (.pointer (some ad))).run P w=.ok q w:=by
  intro ad q hq; simp [Instr.loadAt,Instr.sureAddr,hq]
 unfold aLd at h
 split at h
 ·rename_i id o off
  split at h
  ·rename_i t' ps ho
   obtain ⟨g,L,h1,h2,rfl⟩:=hx.ref
   obtain ⟨g',us,k1,k2,k3,k4⟩:=H _ _ ho (by simp)
   rw [h1] at k1; injection k1 with k1; subst k1
   injection h2 with h2; injection h2 with h2; subst h2
   have hc:∀ j,j<us.length→w.cell? ⟨g',0+j,none⟩=us[j]?:=fun j hj=>by rw [Nat.zero_add,cell_of_row w g' j _ t' _ k2]; simp
   obtain ⟨q,hq,hv⟩:=ld_of_css k3 h hp' ht hc
   rw [Nat.zero_add] at hq
   exact ⟨q,go hq,hv⟩
  ·cases h
 ·rename_i sz y o off
  obtain ⟨us,b,base,h1,h2,h3,h4,rfl⟩:=hx.ptr
  obtain ⟨q,hq,hv⟩:=ld_of_css (Css.single h2 h3) h hp' ht h4
  exact ⟨q,go hq,hv.rho⟩
 ·rename_i id ver i z o off
  split at h
  ·rename_i e s v' xs ho
   split at h
   ·rename_i e; subst e
    obtain ⟨g,L,h1,h2,rfl⟩:=hx.rowp
    obtain ⟨L',us,k1,k2,k3,k4,k5,k6⟩:=H _ _ ho (by simp)
    rw [h1] at k1; injection k1 with k1; subst k1
    obtain ⟨⟨q1,q2⟩,hq,e1⟩:=Option.map_eq_some_iff.1 h
    injection e1 with e1 e2; subst e1 e2
    obtain ⟨hq2,hi⟩:=hp'
    subst k3
    have hM:=k4.mem k2 k5
    have hxi:xs[i]?=some (xs.getD i z):=by rw [List.getD_eq_getElem?_getD,List.getElem?_eq_getElem hi]; rfl
    obtain ⟨m1,m2⟩:=k5.elem hxi
    generalize hX:xs.getD i z=X at hq m1
    have hul:((us.drop (i * L.sz)).take L.sz).length=L.sz:=by rw [List.length_take,List.length_drop]; omega
    have hcell:∀ j,j<((us.drop (i * L.sz)).take L.sz).length→w.cell? ⟨g,i * L.sz+j,none⟩=((us.drop (i * L.sz)).take L.sz)[j]?:=by
     intro j hj
     rw [hul] at hj
     obtain ⟨b,o',hA,hc⟩:=hM.cell (by omega)
     rw [h2] at hA; injection hA with hA; injection hA with hA1 hA2; subst hA1 hA2
     rw [List.getElem?_take,if_pos hj,List.getElem?_drop,← hc _ (by omega),Nat.zero_add]
    obtain ⟨q,hq',hv⟩:=ld_of_css (Css.single m1 hul) hq hq2 ht hcell
    exact ⟨q,go hq',hv.rho⟩
   ·cases h
  ·cases h
 ·cases h
def aFld (o:Nat) (rt:Rt) (x:AV):Option (AV × Prop) :=
 match x with
 | .agg ps=>rdP rt ps o 0
 | _=>none
theorem aFld_ok {rt:Rt} {x r:AV} {p:Prop} {v:Value} {t:TypeId} {fs:Array Field} {k:Nat} {f:Field} (h:aFld f.offset rt x=some (r,p)) (hp' : p) (hx:Vl w S ρ x v) (ht:P.underlying t=some (.struct fs)) (hk:fs[k]?=some f) (hr:RtOk P f.type rt) :
  ∃ q,(Instr.field t v k).run P w=.ok q w∧Vl w S ρ r q:=by
 unfold aFld at h
 split at h
 ·rename_i ps
  obtain ⟨us,hc,rfl⟩:=hx.agg
  obtain ⟨h1,h2⟩:=rdP_ok hc.parts h hp'
  refine ⟨_,?_,h2⟩
  simp only [Instr.field,Sem.run_bind,run_underlying ht,Result.andThen_ok,hk,asAgg,Sem.run_pure,part,hr.agg]
  cases hag:rt.isAgg with
  | true =>
   simp only [if_true,Sem.run_bind,hr.size,Result.andThen_ok,Sem.run_pure,Nat.add_zero]
   congr 2
   apply Array.ext'
   simp [List.take_drop,List.extract_eq_drop_take',Nat.add_comm]
  | false =>
   have h1' : rt.size=1:=by cases rt <;> first | rfl | cases hag
   simp only [Bool.false_eq_true,if_false,Nat.add_zero]
   rw [List.getElem?_toArray,List.getElem?_eq_getElem (by omega),List.getD_eq_getElem?_getD,List.getElem?_eq_getElem (by omega)]
   rfl
 ·cases h
end
end Go.Proofs.YtakolikdebfkeaaDoor
namespace Go.Proofs.YtakolikdebfkeaaDoor
open Go.RowKit
section
variable {P : Program} {F : Nat → Prop} {w0 w : World} {S : Nat → Prop} {ρ : Rho} {hp : List AObj}
theorem extract_mk (l:List UInt8) (a b:Nat):(⟨l.toArray⟩:ByteArray).extract a b=⟨((l.take b).drop a).toArray⟩:=by
 apply ByteArray.ext
 simp only [ByteArray.data_extract]
 apply Array.ext'
 simp [List.extract_eq_drop_take',List.take_drop]
 rcases Nat.lt_or_ge b a with h | h
 ·rw [List.drop_of_length_le (by rw [List.length_take]; omega),List.drop_of_length_le (by rw [List.length_take]; omega)]
 ·rw [show a+(b - a)=b by omega]
def aLo:Option AV→Option Int
 | none=>some 0
 | some (.int _ n)=>some n
 | _=>none
def aHi (n:Nat):Option AV→Option Int
 | none=>some n
 | some (.int _ n)=>some n
 | _=>none
def Bd (w:World) (S:Nat→Prop) (ρ:Rho) (x:Option AV) (v:Option Value):Prop :=
 match x,v with
 | none,none=>True
 | some x,some v=>Vl w S ρ x v
 | _,_=>False
theorem run_bounds {x y:Option AV} {v u:Option Value} (hx:Bd w S ρ x v) (hy:Bd w S ρ y u) {a b:Int} {n c:Nat} (ha:aLo x=some a) (hb:aHi n y=some b) (h0:0≤a) (h1:a≤b) (h2:b≤c) (isS:Bool) :
  (Instr.sliceBounds isS n c v u none).run P w=.ok (a.toNat,b.toNat,c) w:=by
 have hb0:0≤b:=by omega
 have eb:(b.toNat:Int)=b:=Int.toNat_of_nonneg hb0
 cases y with
 | none =>
  cases u with
  | some _=>exact hy.elim
  | none =>
   injection hb with hb; subst hb
   cases x with
   | none =>
    cases v with
    | some _=>exact hx.elim
    | none=>injection ha with ha; subst ha; simp [Instr.sliceBounds]
   | some x =>
    cases v with
    | none=>exact hx.elim
    | some v =>
     cases x <;> simp only [aLo,reduceCtorEq,Option.some.injEq] at ha
     subst ha
     have hx' : v=_:=Vl.int hx
     subst hx'
     simp [Instr.sliceBounds,run_sliceBound,h0,h1]
 | some y =>
  cases u with
  | none=>exact hy.elim
  | some u =>
   cases y <;> simp only [aHi,reduceCtorEq,Option.some.injEq] at hb
   subst hb
   have hy' : u=_:=Vl.int hy
   subst hy'
   cases x with
   | none =>
    cases v with
    | some _=>exact hx.elim
    | none=>injection ha with ha; subst ha; simp [Instr.sliceBounds,run_sliceBound,hb0,h2]
   | some x =>
    cases v with
    | none=>exact hx.elim
    | some v =>
     cases x <;> simp only [aLo,reduceCtorEq,Option.some.injEq] at ha
     subst ha
     have hx' : v=_:=Vl.int hx
     subst hx'
     simp [Instr.sliceBounds,run_sliceBound,h0,h1,hb0,h2,eb]
def cutL {α:Type} (xs:List α) (lo hi:Option AV):Option (List α × Prop) :=
 match aLo lo,aHi xs.length hi with
 | some a,some b=>some ((xs.take b.toNat).drop a.toNat,0≤a∧a≤b∧b≤xs.length)
 | _,_=>none
def aSlS (x:AV) (lo hi:Option AV):Option (AV × Prop) :=
 match x with
 | .str l=>(cutL l lo hi).map fun (q:List UInt8 × Prop)=>(.str q.1,q.2)
 | _=>none
theorem cutL_some {α:Type} {xs ys:List α} {lo hi:Option AV} {p:Prop} (h:cutL xs lo hi=some (ys,p)):∃ a b,aLo lo=some a∧aHi xs.length hi=some b∧ys=(xs.take b.toNat).drop a.toNat∧p=(0≤a∧a≤b∧b≤xs.length):=by
 unfold cutL at h
 split at h
 ·rename_i a b h1 h2
  injection h with h; injection h with e1 e2
  exact ⟨a,b,h1,h2,e1.symm,e2.symm⟩
 ·cases h
theorem aSlS_ok {x r:AV} {lo hi:Option AV} {p:Prop} {v:Value} {u1 u2:Option Value} (h:aSlS x lo hi=some (r,p)) (hp' : p) (hx:Vl w S ρ x v) (h1:Bd w S ρ lo u1) (h2:Bd w S ρ hi u2) {t:TypeId} (ht:P.underlying t=some .string) :
  ∃ q,(Instr.sliceAt t v u1 u2 none).run P w=.ok q w∧Vl w S ρ r q:=by
 unfold aSlS at h
 split at h
 ·rename_i l
  obtain ⟨⟨q1,q2⟩,hq,e⟩:=Option.map_eq_some_iff.1 h
  injection e with e1 e2; subst e1 e2
  obtain ⟨a,b,k1,k2,rfl,rfl⟩:=cutL_some hq
  obtain ⟨p0,p1,p2⟩:=hp'
  have hb:=run_bounds (P:=P) h1 h2 (c:=l.length) k1 k2 p0 p1 p2 false
  rw [hx.str]
  refine ⟨_,?_,Vl.str' _⟩
  have hsz:(⟨l.toArray⟩:ByteArray).size=l.length:=rfl
  simp [Instr.sliceAt,run_underlying ht,Instr.slice,hsz,hb,extract_mk]
 ·cases h
def aSl (hp:List AObj) (sz:Nat) (x:AV) (lo hi:Option AV):Option (AV × Prop) :=
 match x with
 | .sl s xs=>if s=sz then (cutL xs lo hi).map fun (q:List AV × Prop)=>(.sl sz q.1,q.2) else none
 | .con u=>if nilS u then (match aLo lo,aHi 0 hi with
  | some a,some b=>some (.con u,a=0∧b=0)
  | _,_=>none) else none
 | .own id v=>match hp[id]? with
  | some (.row _ s v' xs)=>if v=v' ∧ s=sz then (match aLo lo,aHi xs.length hi with
   | some a,some b=>some (.ownv id v a.toNat (b - a).toNat,0≤a∧a≤b∧b≤xs.length)
   | _,_=>none) else none
  | some (.froz s v' xs)=>if v=v' ∧ s=sz then (cutL xs lo hi).map fun (q:List AV × Prop)=>(.sl sz q.1,q.2) else none
  | _=>none
 | .ownv id v i m=>match hp[id]? with
  | some (.row _ s v' xs)=>if v=v' ∧ s=sz then (match aLo lo,aHi m hi with
   | some a,some b=>some (.ownv id v (i+a.toNat) (b - a).toNat,0≤a∧a≤b∧b≤m)
   | _,_=>none) else none
  | _=>none
 | _=>none
theorem run_sliceAt_sl {t e:TypeId} {sz:Nat} (ht:P.underlying t=some (.slice e)) (hsz:(P.info? e).map (·.size)=some sz) {x y:Option AV} {v u:Option Value} (hx:Bd w S ρ x v) (hy:Bd w S ρ y u) {a b:Int} {A:Option Addr} {n c:Nat}
  (ha:aLo x=some a) (hb:aHi n y=some b) (h0:0≤a) (h1:a≤b) (h2:b≤c) :
  (Instr.sliceAt t (.slice A n c) v u none).run P w=.ok (.slice (cutA A c a.toNat sz) (b.toNat - a.toNat) (c - a.toNat)) w:=by
 have hbd:=run_bounds (P:=P) hx hy ha hb h0 h1 h2 true
 obtain ⟨j,hj1,hj2⟩:=Option.map_eq_some_iff.1 hsz
 simp [Instr.sliceAt,run_underlying ht,Instr.slice,hbd,sizeOf,typeInfo,hj1,hj2,cutA]
theorem Cs.sl_cut {sz:Nat} {xs:List AV} {v:Value} (h:Cs w S ρ (.sl sz xs) [v]) {i j:Nat} (hij:i≤j) (hj:j≤xs.length) :
  ∃ A c,v=.slice A xs.length c∧xs.length≤c∧Cs w S ρ (.sl sz ((xs.take j).drop i)) [.slice (cutA A c i sz) (j - i) (c - i)]:=by
 have key:∀ x vs,Cs w S ρ x vs→x=.sl sz xs→vs=[v]→∃ A c,v=.slice A xs.length c∧xs.length≤c∧Cs w S ρ (.sl sz ((xs.take j).drop i)) [.slice (cutA A c i sz) (j - i) (c - i)]:=by
  intro x vs hc
  cases hc with
  | sl0 s A c hc =>
   intro e ev; cases e; cases ev
   simp only [List.length_nil] at hj
   obtain rfl:j=0:=by omega
   obtain rfl:i=0:=by omega
   exact ⟨A,c,rfl,Nat.zero_le _,.sl0 _ _ _ (by omega)⟩
  | sl s ys us b o c hS k1 k2 k3 k4 k5 =>
   intro e ev; cases e; cases ev
   refine ⟨_,c,rfl,k4,?_⟩
   have hM:Mem w S sz xs (some ⟨b,o,none⟩) xs.length c us:=⟨rfl,k1.parts,fun _=>⟨b,o,rfl,k3⟩,k4,k5⟩
   have hM' := hM.cut hij hj
   have hlen:((xs.take j).drop i).length=j - i:=by rw [List.length_drop,List.length_take]; omega
   rcases Nat.eq_zero_or_pos (j - i) with h0 | h0
   ·have:(xs.take j).drop i=[]:=List.eq_nil_of_length_eq_zero (by omega)
    rw [this,h0]; exact .sl0 _ _ _ (by omega)
   ·have hcut:cutA (some ⟨b,o,none⟩) c i sz=some ⟨b,o+i * sz,none⟩:=by unfold cutA; rw [if_neg (by omega)]; simp [add_spot]
    rw [hcut] at hM' ⊢
    have hcell:∀ k,k<((us.take (j * sz)).drop (i * sz)).length→w.cell? ⟨b,o+i * sz+k,none⟩=((us.take (j * sz)).drop (i * sz))[k]?:=by
     intro k hk
     obtain ⟨b',o',e,hc⟩:=hM'.cell (by omega)
     injection e with e; injection e with e1 e2; subst e1 e2
     exact hc k hk
    have:=Cs.sl (w:=w) (S:=S) (ρ:=ρ) sz ((xs.take j).drop i) _ b (o+i * sz) (c - i) hS hM'.css.cs hM'.ulen hcell (by omega) (by omega)
    rw [hlen] at this; exact this
  | _=>intro e; cases e
 exact key _ _ h rfl rfl
theorem aSl_ok (H:ObsOk w S ρ hp) {sz:Nat} {x r:AV} {lo hi:Option AV} {p:Prop} {v:Value} {u1 u2:Option Value} (h:aSl hp sz x lo hi=some (r,p)) (hp' : p) (hx:Vl w S ρ x v) (h1:Bd w S ρ lo u1) (h2:Bd w S ρ hi u2) {t e:TypeId}
  (ht:P.underlying t=some (.slice e)) (hsz:(P.info? e).map (·.size)=some sz) :
  ∃ q,(Instr.sliceAt t v u1 u2 none).run P w=.ok q w∧Vl w S ρ r q:=by
 have stable:∀ {xs:List AV} {v:Value} {q:List AV × Prop},Cs w S ρ (.sl sz xs) [v]→cutL xs lo hi=some q→q.2→∃ r,(Instr.sliceAt t v u1 u2 none).run P w=.ok r w∧Vl w S ρ (.sl sz q.1) r:=by
  intro xs v q hc hq hq2
  obtain ⟨a,b,k1,k2,e1,e2⟩:=cutL_some (p:=q.2) (ys:=q.1) hq
  rw [e2] at hq2
  obtain ⟨p0,p1,p2⟩:=hq2
  obtain ⟨A,c,rfl,hcap,hc'⟩:=hc.sl_cut (i:=a.toNat) (j:=b.toNat) (by omega) (by omega)
  rw [e1]
  exact ⟨_,run_sliceAt_sl ht hsz h1 h2 k1 k2 p0 p1 (by omega),.inr ⟨_,hc',rfl⟩⟩
 unfold aSl at h
 split at h
 ·split at h
  ·rename_i s xs e; subst e
   obtain ⟨q,hq,e⟩:=Option.map_eq_some_iff.1 h
   injection e with e1 e2; subst e1 e2
   exact stable hx.sl hq hp'
  ·cases h
 ·rename_i u
  split at h
  ·rename_i hu
   have hv:=hx.con.trans (nilS_eq hu)
   split at h
   ·rename_i a b k1 k2
    injection h with h; injection h with e1 e2; subst e1 e2
    obtain ⟨rfl,rfl⟩:=hp'
    rw [hv]
    have hr:=run_sliceAt_sl (P:=P) (w:=w) (A:=none) (c:=0) ht hsz h1 h2 k1 k2 (by omega) (by omega) (by omega)
    refine ⟨_,hr,?_⟩
    rw [nilS_eq hu]
    exact Vl.con' _ rfl
   ·cases h
  ·cases h
 ·rename_i id ver
  obtain ⟨L,hL,rfl⟩:=hx.own
  split at h
  ·rename_i e' s v' xs ho
   split at h
   ·rename_i e; obtain ⟨rfl,rfl⟩:=e
    split at h
    ·rename_i a b k1 k2
     injection h with h; injection h with e1 e2; subst e1 e2
     obtain ⟨p0,p1,p2⟩:=hp'
     obtain ⟨L',us,m1,m2,m3,m4,m5,m6⟩:=H _ _ ho (by simp)
     rw [hL] at m1; injection m1 with m1; subst m1
     have hM:=(m4.mem m2 (by rw [m3]; exact m5)).cap
     rw [← m2] at k2
     refine ⟨_,run_sliceAt_sl ht hsz h1 h2 k1 k2 p0 p1 (by omega),?_⟩
     have:=Cs.ownv (w:=w) (S:=S) id ver a.toNat (b - a).toNat L (cutA L.A L.c a.toNat L.sz) hL (by omega) (fun _=>rfl)
     rw [m3] at this
     rw [show b.toNat - a.toNat=(b - a).toNat by omega]
     exact .inr ⟨_,this,rfl⟩
    ·cases h
   ·cases h
  ·rename_i s v' xs ho
   split at h
   ·rename_i e; obtain ⟨rfl,rfl⟩:=e
    obtain ⟨q,hq,e⟩:=Option.map_eq_some_iff.1 h
    injection e with e1 e2; subst e1 e2
    obtain ⟨L',m1,m2,m3,m4⟩:=H _ _ ho (by simp)
    rw [hL] at m1; injection m1 with m1; subst m1
    exact stable (m4.ext (fun _ _=>rfl) (fun _ h=>h) (fun _ _ _ h=>by cases h)) hq hp'
   ·cases h
  ·cases h
 ·rename_i id ver i m
  obtain ⟨L,A0,hL,hm,hA0,rfl⟩:=hx.ownv
  split at h
  ·rename_i e' s v' xs ho
   split at h
   ·rename_i e; obtain ⟨rfl,rfl⟩:=e
    split at h
    ·rename_i a b k1 k2
     injection h with h; injection h with e1 e2; subst e1 e2
     obtain ⟨p0,p1,p2⟩:=hp'
     obtain ⟨L',us,m1,m2,m3,m4,m5,m6⟩:=H _ _ ho (by simp)
     rw [hL] at m1; injection m1 with m1; subst m1
     have hM:=(m4.mem m2 (by rw [m3]; exact m5)).cap
     refine ⟨_,run_sliceAt_sl ht hsz h1 h2 k1 k2 p0 p1 (by omega),?_⟩
     have:=Cs.ownv (w:=w) (S:=S) id ver (i+a.toNat) (b - a).toNat L (cutA A0 (L.c - i) a.toNat s) hL (by omega) (fun hh=>by
      rw [hA0 (by omega),← m3]
      unfold cutA
      rcases Nat.eq_zero_or_pos i with hi | hi
      ·subst hi
       rcases Nat.eq_zero_or_pos a.toNat with ha | ha
       ·rw [ha]; simp only [Nat.add_zero,Nat.zero_mul,Nat.sub_zero]
        split
        ·rfl
        ·cases L.A <;> simp [addr_add_zero]
       ·rw [if_neg (show ¬ L.c - 0=a.toNat by omega),if_neg (show ¬ L.c=0+a.toNat by omega)]
        have:¬ L.c=0:=by omega
        rw [if_neg this]
        cases L.A with
        | none=>rfl
        | some ad=>simp [addr_add_zero]
      ·rw [if_neg (show ¬ L.c - i=a.toNat by omega),if_neg (show ¬ L.c=i+a.toNat by omega),if_neg (show ¬ L.c=i by omega)]
       obtain ⟨hl,m4⟩:=m4
       rcases m4 with ⟨q1,q2,q3⟩ | ⟨g,cur,fr,q1,_⟩
       ·omega
       ·rw [q1]; simp only [Option.map_some,add_spot,Nat.add_mul,Nat.add_assoc])
     rw [show b.toNat - a.toNat=(b - a).toNat by omega,show L.c - i - a.toNat=L.c - (i+a.toNat) by omega]
     exact .inr ⟨_,this,rfl⟩
    ·cases h
   ·cases h
  ·cases h
 ·cases h
end
end Go.Proofs.YtakolikdebfkeaaDoor
namespace Go.Proofs.YtakolikdebfkeaaDoor
open Go.RowKit
section
variable {P : Program} {F : Nat → Prop} {w0 w : World} {S : Nat → Prop} {ρ : Rho} {hp : List AObj}
theorem Vl1.vl {x:AV} {v:Value} (h:Vl1 w S ρ x v):Vl w S ρ x v:=by
 cases x
 case tup xs =>
  rcases h with h | ⟨us,h,_⟩
  ·cases h
  ·cases h
 all_goals exact h
def aExt (x:AV) (i:Nat):Option (AV × Prop) :=
 match x with
 | .tup xs=>some (xs.getD i .top,i<xs.length)
 | _=>none
theorem aExt_ok {x r:AV} {i:Nat} {p:Prop} {v:Value} (h:aExt x i=some (r,p)) (hp' : p) (hx:Vl w S ρ x v):∃ q,(Instr.extract v i).run P w=.ok q w∧Vl w S ρ r q:=by
 unfold aExt at h
 split at h
 ·rename_i xs
  injection h with h; injection h with e1 e2; subst e1 e2
  obtain ⟨vs,rfl,h2,h3⟩:=hx
  refine ⟨vs.getD i undef,?_,(h3 i hp').vl⟩
  have:vs.toArray[i]?=some (vs.getD i undef):=by
   rw [List.getElem?_toArray,List.getD_eq_getElem?_getD,List.getElem?_eq_getElem (by omega)]; rfl
  simp only [Instr.extract,this]; rfl
 ·cases h
def aNck (x:AV):Option (AV × Prop) :=
 match x with
 | .ref _ _ _=>some (x,True)
 | .ptr _ _ _ _=>some (x,True)
 | .rowp _ _ _ _ _ _=>some (x,True)
 | .fn (.func _) _ _=>some (x,True)
 | _=>none
theorem aNck_ok {x r:AV} {p:Prop} {X:Operand} {o:Oper} {a:Act} (ho:o.op=.nilCheck X) (h:aNck x=some (r,p)) (hx:Vl w S ρ x (a.eval X)):∃ q,(execOp a.eval o).run P w=.ok (.value q) w∧Vl w S ρ r q:=by
 have key:∀ v,a.eval X=v→(∀ ad,v=.pointer (some ad)→(execOp a.eval o).run P w=.ok (.value v) w)∧(∀ f us vs,v=.func (.func f) us vs→(execOp a.eval o).run P w=.ok (.value v) w):=by
  intro v hv
  constructor
  ·rintro ad rfl; simp [execOp,ho,hv]
  ·rintro f us vs rfl; simp [execOp,ho,hv]
 unfold aNck at h
 split at h
 ·injection h with h; injection h with e1 e2; subst e1 e2
  obtain ⟨g,L,h1,h2,e⟩:=hx.ref
  exact ⟨_,(key _ e).1 _ rfl,by rw [e] at hx; exact hx⟩
 ·injection h with h; injection h with e1 e2; subst e1 e2
  obtain ⟨us,b,base,h1,h2,h3,h4,e⟩:=hx.ptr
  exact ⟨_,(key _ e).1 _ rfl,by rw [e] at hx; exact hx⟩
 ·injection h with h; injection h with e1 e2; subst e1 e2
  obtain ⟨g,L,h1,h2,e⟩:=hx.rowp
  exact ⟨_,(key _ e).1 _ rfl,by rw [e] at hx; exact hx⟩
 ·injection h with h; injection h with e1 e2; subst e1 e2
  rename_i f first cap
  have:∃ us vs,a.eval X=.func (.func f) us vs:=by
   rcases hx with h | ⟨us,h,e⟩
   ·cases h
   ·cases h with
    | fn _ _ _ us vs=>exact ⟨_,_,e⟩
  obtain ⟨us,vs,e⟩:=this
  exact ⟨_,(key _ e).2 _ _ _ rfl,by rw [e] at hx; exact hx⟩
 ·cases h
def AV.isStr:AV→Bool
 | .str _=>true
 | _=>false
def aLen (hp:List AObj) (n:Option Nat) (x:AV):Option (AV × Prop) :=
 match n with
 | some n=>some (.int .i64 n,True)
 | none=>match x with
  | .str l=>some (.int .i64 l.length,True)
  | .sl _ xs=>some (.int .i64 xs.length,True)
  | .con u=>if nilS u then some (.int .i64 0,True) else none
  | .own id v=>match hp[id]? with
   | some (.row _ _ v' xs)=>if v=v' then some (.int .i64 xs.length,True) else none
   | some (.froz _ v' xs)=>if v=v' then some (.int .i64 xs.length,True) else none
   | _=>none
  | .ownv _ _ _ m=>some (.int .i64 m,True)
  | .arv _ _ _ _ m=>some (.int .i64 m,True)
  | .arw _ _ _ _ _ _ _ m=>some (.int .i64 m,True)
  | _=>none
def LenOk (P:Program) (t:TypeId):Option Nat→Prop
 | some n=>∃ e,P.underlying t=some (.array n e)
 | none=>P.underlying t=some .string∨∃ e,P.underlying t=some (.slice e)
theorem aLen_ok (H:ObsOk w S ρ hp) {n:Option Nat} {x r:AV} {p:Prop} {v:Value} (h:aLen hp n x=some (r,p)) (hx:Vl w S ρ x v) {t ty:TypeId} (ht:LenOk P t n) (hk:n=none→(x.isStr=true→P.underlying t=some .string)∧(x.isStr=false→∃ e,P.underlying t=some (.slice e))) :
  ∃ q,(Builtin.len_ #[t] ty #[v]).run P w=.ok q w∧Vl w S ρ r q:=by
 have str:P.underlying t=some .string→∀ l:List UInt8,v=.string ⟨l.toArray⟩→(Builtin.len_ #[t] ty #[v]).run P w=.ok (.int .i64 l.length) w:=by
  rintro hn l rfl
  rw [run_len_string _ _ _ _ hn]; rfl
 have slc:(∃ e,P.underlying t=some (.slice e))→∀ A m c,v=.slice A m c→(Builtin.len_ #[t] ty #[v]).run P w=.ok (.int .i64 m) w:=by
  rintro ⟨e,he⟩ A m c rfl
  simp [Builtin.len_,run_underlying he,goInt]
 unfold aLen at h
 split at h
 ·rename_i m
  injection h with h; injection h with e1 e2; subst e1 e2
  obtain ⟨e,he⟩:=ht
  exact ⟨.int .i64 m,by simp [Builtin.len_,run_underlying he,goInt],Vl.int' _ _⟩
 ·split at h
  ·injection h with h; injection h with e1 e2; subst e1 e2
   exact ⟨_,str ((hk rfl).1 rfl) _ hx.str,Vl.int' _ _⟩
  ·rename_i sz xs
   injection h with h; injection h with e1 e2; subst e1 e2
   obtain ⟨A,m,c,us,e,hM⟩:=Mem.of_sl hx.sl
   rw [← hM.len]
   exact ⟨_,slc ((hk rfl).2 rfl) _ _ _ e,Vl.int' _ _⟩
  ·rename_i u
   split at h
   ·rename_i hu
    injection h with h; injection h with e1 e2; subst e1 e2
    exact ⟨_,slc ((hk rfl).2 rfl) _ _ _ (hx.con.trans (nilS_eq hu)),Vl.int' _ _⟩
   ·cases h
  ·rename_i id ver
   obtain ⟨L,hL,e⟩:=hx.own
   split at h
   ·rename_i e' s v' xs ho
    split at h
    ·rename_i e2; subst e2; injection h with h; injection h with e1 e2; subst e1 e2
     obtain ⟨L',us,m1,m2,_⟩:=H _ _ ho (by simp)
     rw [hL] at m1; injection m1 with m1; subst m1
     rw [← m2]
     exact ⟨_,slc ((hk rfl).2 rfl) _ _ _ e,Vl.int' _ _⟩
    ·cases h
   ·rename_i s v' xs ho
    split at h
    ·rename_i e2; subst e2; injection h with h; injection h with e1 e2; subst e1 e2
     obtain ⟨L',m1,m2,_⟩:=H _ _ ho (by simp)
     rw [hL] at m1; injection m1 with m1; subst m1
     rw [← m2]
     exact ⟨_,slc ((hk rfl).2 rfl) _ _ _ e,Vl.int' _ _⟩
    ·cases h
   ·cases h
  ·injection h with h; injection h with e1 e2; subst e1 e2
   obtain ⟨L,A0,hL,hm,hA0,e⟩:=hx.ownv
   exact ⟨_,slc ((hk rfl).2 rfl) _ _ _ e,Vl.int' _ _⟩
  ·injection h with h; injection h with e1 e2; subst e1 e2
   obtain ⟨g,L,_,_,_,_,e⟩:=hx.arv
   exact ⟨_,slc ((hk rfl).2 rfl) _ _ _ e,Vl.int' _ _⟩
  ·injection h with h; injection h with e1 e2; subst e1 e2
   obtain ⟨g,L,_,_,_,_,_,e⟩:=hx.arw
   exact ⟨_,slc ((hk rfl).2 rfl) _ _ _ e,Vl.int' _ _⟩
  ·cases h
def AV.one:AV→Bool
 | .blob _ | .agg _ | .tup _ | .top=>false
 | _=>true
theorem Vl.cs {x:AV} {v:Value} (h:Vl w S ρ x v) (h0:x≠.top) (h1:∀ xs,x≠.tup xs):∃ us,Cs w S ρ x us∧v=wrapv x us:=by
 rcases h.to1 h1 with e | h
 ·exact absurd e h0
 ·exact h
theorem Vl.cs1 {x:AV} {v:Value} (h:Vl w S ρ x v) (h1:x.one=true):Cs w S ρ x [v]:=by
 obtain ⟨us,hc,rfl⟩:=h.cs (by rintro rfl; cases h1) (by rintro xs rfl; cases h1)
 cases hc <;> first | (cases h1; done) | (simp only [wrapv,AV.multi,Bool.false_eq_true,if_false,List.headD_cons]; constructor <;> assumption)
end
end Go.Proofs.YtakolikdebfkeaaDoor
namespace Go.Proofs.YtakolikdebfkeaaDoor
open Go.RowKit
def pureB:Nat→AV→Bool
 | 0,_=>false
 | d+1,x=>match x with
  | .own _ _ | .ownv _ _ _ _ | .ref _ _ _ | .rowp _ _ _ _ _ _ | .tup _ | .mpv _ | .arv _ _ _ _ _ | .arw _ _ _ _ _ _ _ _=>false
  | .agg ps=>ps.all fun p=>pureB d p.2
  | .fn _ f c=>f.isEmpty && c.isEmpty
  | .iface _ x=>pureB d x
  | _=>true
def szOk (sz:Nat):AV→Option Prop
 | .top | .tup _=>none
 | .blob cs=>some (cs.length=sz)
 | .agg ps=>if psz ps=sz then some True else none
 | _=>if sz=1 then some True else none
section
variable {P : Program} {F : Nat → Prop} {w0 w : World} {S : Nat → Prop} {ρ : Rho} {hp : List AObj}
theorem pureB_ok {ρ' : Rho}:∀ (d:Nat) {x:AV} {us:List Value},Cs w S ρ x us→pureB d x=true→Cs w S ρ' x us:=by
 intro d
 induction d with
 | zero=>intro x us _ h; cases h
 | succ d ih =>
  intro x us h hb
  cases h with
  | top us h=>exact .top us h
  | int k n=>exact .int k n
  | bool b=>exact .bool b
  | str l=>exact .str l
  | con x h=>exact .con x h
  | blob _ h=>exact .blob _ h
  | agg ps uss h1 h2 h3 =>
   simp only [pureB,List.all_eq_true] at hb
   refine .agg ps uss h1 h2 fun i hi=>ih (h3 i hi) (hb _ ?_)
   rw [List.getD_eq_getElem?_getD,List.getElem?_eq_getElem hi]
   exact List.getElem_mem hi
  | sl0 sz A c h=>exact .sl0 sz A c h
  | sl sz xs us b o c h1 h2 h3 h4 h5 h6=>exact .sl sz xs us b o c h1 h2 h3 h4 h5 h6
  | ptr sz x o off us b base h1 h2 h3 h4=>exact .ptr sz x o off us b base h1 h2 h3 h4
  | own=>cases hb
  | ownv=>cases hb
  | ref=>cases hb
  | rowp=>cases hb
  | mpv=>cases hb
  | arv=>cases hb
  | arw=>cases hb
  | fn f first cap us vs h1 h2 h3 h4 =>
   simp only [pureB,Bool.and_eq_true,List.isEmpty_iff] at hb
   obtain ⟨rfl,rfl⟩:=hb
   exact .fn f [] [] us vs h1 h2 (fun i hi=>by simp at hi) (fun i hi=>by simp at hi)
  | iface t x us h=>exact .iface t x us (ih h hb)
theorem szOk_ok {sz:Nat} {x:AV} {us:List Value} {p:Prop} (h:Cs w S ρ x us) (hs:szOk sz x=some p) (hp:p):us.length=sz:=by
 have one:∀ {q:Prop},(if sz=1 then some True else none)=some q→us.length=1→us.length=sz:=by
  intro q hq hu
  split at hq
  ·rename_i e; rw [e]; exact hu
  ·cases hq
 cases x <;> simp only [szOk,reduceCtorEq] at hs
 case blob cs=>injection hs with hs; subst hs; cases h; exact hp
 case agg ps =>
  split at hs
  ·rename_i e; rw [h.parts.len]; exact e
  ·cases hs
 all_goals exact one hs (by cases h <;> rfl)
theorem foldl_set:∀ (vs:List Value) (k off:Nat) (cells:Array Value),off+k+vs.length≤cells.size →
  ((vs.zipIdx k).foldl (fun cs (p:Value × Nat)=>cs.setIfInBounds (off+p.2) p.1) cells).toList=cells.toList.take (off+k) ++ vs ++ cells.toList.drop (off+k+vs.length):=by
 intro vs
 induction vs with
 | nil=>intro k off cells h; simp
 | cons v vs ih =>
  intro k off cells h
  simp only [List.length_cons] at h
  rw [List.zipIdx_cons,List.foldl_cons,ih (k+1) off _ (by simp; omega)]
  simp only [Array.toList_setIfInBounds,List.length_cons]
  have:=list_seg_step cells.toList (off+k) v vs (by simp; omega)
  rw [show off+(k+1)=off+k+1 by omega]
  rw [show off+k+1+vs.length=off+k+1+vs.length from rfl] at this
  rw [this]
theorem fill_step {place:Nat→Option (Nat × Nat)} {cells:Array Value} {i off sz:Nat} {v:Value} {rest:List (Nat × Value)} (hp:place i=some (off,sz)) (hs:v.cells.size=sz) (hl:off+sz≤cells.size) :
  Instr.fill place cells ((i,v) :: rest)=Instr.fill place (cells.toList.take off ++ v.cells.toList ++ cells.toList.drop (off+sz)).toArray rest:=by
 have h1:(v.cells.zipIdx.foldl (fun cs (p:Value × Nat)=>cs.setIfInBounds (off+p.2) p.1) cells)=(cells.toList.take off ++ v.cells.toList ++ cells.toList.drop (off+sz)).toArray:=by
  apply Array.ext'
  have:=foldl_set v.cells.toList 0 off cells (by rw [Nat.add_zero,Array.length_toList,hs]; exact hl)
  simp only [Nat.add_zero,Array.length_toList,hs] at this
  rw [← Array.foldl_toList]
  simpa using this
 simp only [Instr.fill,hp]
 rw [if_neg (by simp only [hs]; simp; omega)]
 exact congrArg (fun c=>Instr.fill place c rest) h1
theorem fill_all (sz:Nat):∀ (vs:List Value) (k:Nat) (pre rest:List Value),(∀ v∈vs,v.cells.size=sz)→pre.length=k * sz→rest.length=vs.length * sz →
  Instr.fill (fun i=>some (i * sz,sz)) (pre ++ rest).toArray ((vs.zipIdx k).map fun p=>(p.2,p.1))=some (pre ++ (vs.map fun v=>v.cells.toList).flatten).toArray:=by
 intro vs
 induction vs with
 | nil =>
  intro k pre rest _ _ hr
  have:rest=[]:=List.eq_nil_of_length_eq_zero (by simpa using hr)
  subst this
  simp [Instr.fill]
 | cons v vs ih =>
  intro k pre rest hv hp hr
  have hvs:=hv v (by simp)
  simp only [List.length_cons,Nat.add_mul,Nat.one_mul] at hr
  rw [List.zipIdx_cons,List.map_cons,fill_step (off:=k * sz) (sz:=sz) rfl hvs (by simp; omega)]
  have e:((pre ++ rest).toArray.toList.take (k * sz) ++ v.cells.toList ++ (pre ++ rest).toArray.toList.drop (k * sz+sz))=(pre ++ v.cells.toList) ++ rest.drop sz:=by
   simp only [List.toList_toArray]
   rw [← hp,List.take_left,List.drop_append,List.drop_of_length_le (by omega),List.nil_append,Nat.add_sub_cancel_left]
  rw [e,ih (k+1) (pre ++ v.cells.toList) (rest.drop sz) (fun u hu=>hv u (by simp [hu])) (by simp [hvs,hp,Nat.add_mul]) (by rw [List.length_drop]; omega)]
  simp
theorem cells_wrapv {x:AV} {us:List Value} (h:Cs w S ρ x us) (h1:x.multi=true∨us.length=1):(wrapv x us).cells.toList=us:=by
 unfold wrapv
 cases hm:x.multi with
 | true=>simp [Value.cells]
 | false =>
  rw [hm] at h1
  obtain ⟨u,rfl⟩:∃ u,us=[u]:=List.length_eq_one_iff.1 (by simpa using h1)
  have h2:u.oneCell' = true:=h.one u (by simp)
  simp only [Bool.false_eq_true,if_false,List.headD_cons]
  cases u <;> first | rfl | cases h2
theorem Cs.multi_or {x:AV} {us:List Value} (h:Cs w S ρ x us) (h0:x≠.top):x.multi=true∨us.length=1:=by
 cases h <;> first | exact .inr rfl | exact .inl rfl | exact absurd rfl h0
def drp:List (Nat × AV)→Nat→Option (List (Nat × AV))
 | [],n=>if n=0 then some [] else none
 | (s,x) :: ps,n=>if n=0 then some ((s,x) :: ps) else if s≤n then drp ps (n - s) else none
def spl:List (Nat × AV)→Nat→Nat→List (Nat × AV)→Option (List (Nat × AV))
 | [],_,_,_=>none
 | (s,x) :: ps,o,n,qs=>if o=0 then (drp ((s,x) :: ps) n).map (qs ++ ·) else if s≤o then (spl ps (o - s) n qs).map ((s,x) :: ·) else none
theorem drp_ok {ps qs:List (Nat × AV)} {n:Nat} {us:List Value} (h:Css w S ρ ps us) (hp:drp ps n=some qs):Css w S ρ qs (us.drop n)∧n≤us.length:=by
 induction ps generalizing n us with
 | nil =>
  simp only [drp] at hp
  split at hp
  ·rename_i e; subst e; injection hp with hp; subst hp; exact ⟨by simpa using h,Nat.zero_le _⟩
  ·cases hp
 | cons p ps ih =>
  obtain ⟨s',y⟩:=p
  simp only [drp] at hp
  split at hp
  ·rename_i e; subst e; injection hp with hp; subst hp; exact ⟨by simpa using h,Nat.zero_le _⟩
  ·split at hp
   ·rename_i hs
    obtain ⟨u1,u2,rfl,h1,h2,h3⟩:=h
    obtain ⟨k1,k2⟩:=ih h3 hp
    refine ⟨?_,by simp; omega⟩
    rw [List.drop_append,List.drop_of_length_le (by omega),List.nil_append,h1]; exact k1
   ·cases hp
theorem spl_ok {ps qs rs:List (Nat × AV)} {o n:Nat} {us vs:List Value} (h:Css w S ρ ps us) (hq:Css w S ρ qs vs) (hp:spl ps o n qs=some rs):Css w S ρ rs (us.take o ++ vs ++ us.drop (o+n))∧o+n≤us.length:=by
 induction ps generalizing o us rs with
 | nil=>cases hp
 | cons p ps ih =>
  obtain ⟨s',y⟩:=p
  simp only [spl] at hp
  split at hp
  ·rename_i e; subst e
   obtain ⟨q,hq2,rfl⟩:=Option.map_eq_some_iff.1 hp
   obtain ⟨k1,k2⟩:=drp_ok h hq2
   refine ⟨?_,by omega⟩
   rw [Nat.zero_add,List.take_zero,List.nil_append]
   exact hq.append k1
  ·split at hp
   ·rename_i hs
    obtain ⟨q,hq2,rfl⟩:=Option.map_eq_some_iff.1 hp
    obtain ⟨u1,u2,rfl,h1,h2,h3⟩:=h
    obtain ⟨k1,k2⟩:=ih h3 hq2
    refine ⟨⟨u1,_,?_,h1,h2,k1⟩,by simp; omega⟩
    rw [List.take_append,List.take_of_length_le (by omega),List.drop_append,List.drop_of_length_le (by omega),List.nil_append,h1,show o+n - s' = o - s' + n by omega]
    simp only [List.append_assoc]
   ·cases hp
def mkParts:List (Option Nat)→List Value→List (Nat × AV)
 | [],_=>[]
 | none :: sh,us=>(1,ofC (us.headD undef)) :: mkParts sh us.tail
 | some n :: sh,us=>(n,.blob (us.take n)) :: mkParts sh (us.drop n)
def shSize:List (Option Nat)→Nat
 | []=>0
 | none :: sh=>1+shSize sh
 | some n :: sh=>n+shSize sh
theorem mkParts_ok:∀ (sh:List (Option Nat)) (us:List Value),shSize sh=us.length→(us.all fun u=>u.oneCell')=true→Css w S ρ (mkParts sh us) us:=by
 intro sh
 induction sh with
 | nil=>intro us h _; exact List.eq_nil_of_length_eq_zero (by simpa [shSize] using h.symm)
 | cons a sh ih =>
  intro us h ho
  rw [List.all_eq_true] at ho
  cases a with
  | none =>
   cases us with
   | nil=>simp [shSize] at h
   | cons u us =>
    refine ⟨[u],us,rfl,rfl,cs_ofC u (ho u (by simp)),ih us (by simp [shSize] at h; omega) (by rw [List.all_eq_true]; exact fun v hv=>ho v (by simp [hv]))⟩
  | some n =>
   simp only [shSize] at h
   refine ⟨us.take n,us.drop n,(List.take_append_drop n us).symm,by rw [List.length_take]; omega,.blob _ (fun u hu=>ho u (List.mem_of_mem_take hu)),ih _ (by rw [List.length_drop]; omega) (by rw [List.all_eq_true]; exact fun v hv=>ho v (List.mem_of_mem_drop hv))⟩
end
end Go.Proofs.YtakolikdebfkeaaDoor
