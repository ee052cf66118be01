import Derived.Test.YtakolikdebfkeaaDoorQAM1
import Derived.Laws.IdiomStrings
import Derived.Laws.MakeOwn
import Derived.WideLaws
import Derived.Laws.Pointers
import Derived.Laws.StructEq
import Derived.Lib.SliceRun
import Derived.Lib.AppendStr
open Nat (reduceDiv reduceMod reduceSub reduceAdd reduceLeDiff reduceEqDiff)
set_option linter.all false
namespace Go.Proofs.YtakolikdebfkeaaDoor
open Go.RowKit
inductive AOp where
 | mv (x:Opd)
 | pick (c a b:Opd)
 | bin (op:BinOp) (x y:Opd)
 | eqB (neg:Bool) (x y:Opd)
 | nilc (k:Nat) (neg:Bool) (x:Opd)
 | eqA (neg:Bool) (n:Nat) (x y:Opd)
 | eqS (neg:Bool) (fs:List (Nat × Rt × Nat)) (x y:Opd)
 | un (op:UnOp) (x:Opd)
 | toInt (k:IntKind) (x:Opd)
 | toStr (x:Opd)
 | same (x:Opd)
 | idxS (x i:Opd)
 | idxA (n:Nat) (z:AV) (x i:Opd)
 | ia (sz:Nat) (z:AV) (x i:Opd)
 | iaA (n:Nat) (x i:Opd)
 | fld (o:Nat) (rt:Rt) (x:Opd)
 | fa (o:Nat) (x:Opd)
 | ld (rt:Rt) (x:Opd)
 | slS (x:Opd) (lo hi:Option Opd)
 | sl (sz:Nat) (x:Opd) (lo hi:Option Opd)
 | ext (x:Opd) (i:Nat)
 | nck (x:Opd)
 | len (n:Option Nat) (str:Bool) (x:Opd)
 | mkfn (f:Fn) (first cap:List Opd)
 | mkif (t:TypeId) (x:Opd)
 | mm (mx:Bool) (x y:Opd)
 | build (zs:List (Nat × AV)) (parts:List (Nat × Nat × Opd))
 | buildA (zs:List Value) (parts:List (Nat × Opd))
 | new (t:TypeId) (ps:List (Nat × AV))
 | box (t:TypeId) (sz:Nat) (x:Opd)
 | buildSl (e:TypeId) (sz:Nat) (parts:List Opd)
 | mkSl (e:TypeId) (sz bytes:Nat) (z:AV) (l c:Opd)
 | bytes (e:TypeId) (x:Opd)
 | app (e:TypeId) (sz bytes:Nat) (s x:Opd)
 | appS (e:TypeId) (s x:Opd)
 | cpy (e:TypeId) (d x:Opd)
 | mark (x:Opd)
 | st (rt:Rt) (a x:Opd)
 | call (f:FuncId) (args:List Opd)
 | callv (f:Opd) (args:List Opd)
 | callP (f:FuncId) (args:List Opd)
 | bad
 | pan (x:Opd)
 | s2a (n:Nat) (x:Opd)
 | slA (n:Nat) (x:Opd) (lo hi:Option Opd)
 | mkMap (ks:KS)
 | mget (ok:Bool) (ks:KS) (z:AV) (m x:Opd)
 | mput (ks:KS) (m x v:Opd)
 | mlen (m:Opd)
 | tas (t:TypeId) (x:Opd)
section
variable {P : Program} {F : Nat → Prop} {w0 w : World} {S : Nat → Prop} {ρ : Rho} {hp : List AObj}
def aEqB (neg:Bool) (x y:AV):Option (AV × Prop) :=
 match x,y with
 | .bool a,.bool b=>some (.bool (if neg then !(a == b) else a == b),True)
 | _,_=>none
def aNilc (k:Nat) (neg:Bool) (x:AV):Option (AV × Prop) :=
 match k,x with
 | 0,.iface _ _=>some (.bool neg,True)
 | 0,.con .nilIface=>some (.bool (!neg),True)
 | 1,.ref _ _ _=>some (.bool neg,True)
 | 1,.ptr _ _ _ _=>some (.bool neg,True)
 | 1,.rowp _ _ _ _ _ _=>some (.bool neg,True)
 | 1,.con (.pointer none)=>some (.bool (!neg),True)
 | 2,.sl _ xs=>some (.bool neg,xs≠[])
 | 2,.con (.slice none 0 0)=>some (.bool (!neg),True)
 | _,_=>none
def NilT (P:Program) (t:TypeId) (Y:Operand):Nat→Prop
 | 0=>P.underlying t=some (.interface (P.methodsAt t))∧Y=.const .nilIface
 | 1=>P.underlying t=some (.pointer (P.pointee t))∧Y=.const (.pointer none)
 | 2=>(∃ e,P.underlying t=some (.slice e))∧Y=.const (.slice none 0 0)
 | _=>False
theorem run_neq_slice_nil (w:World) (t e:TypeId) (a:Option Addr) (n c n' c' : Nat) (h:P.underlying t=some (.slice e)) :
  (binOp .neq t (.slice a n c) (.slice none n' c')).run P w=.ok (.bool (!a.isNone)) w:=by
 simp only [binOp]
 simp [Op.equal,Op.maxDepth,Lib.run_equalIn_slice_nil w 9999 t e a n c n' c' h]
theorem aNilc_ok {k:Nat} {neg:Bool} {x r:AV} {p:Prop} {v:Value} (h:aNilc k neg x=some (r,p)) (hp' : p) (hx:Vl w S ρ x v) {t:TypeId} (X Y:Operand) (ht:NilT P t Y k) {a:Act} :
  ∃ q,(do eqGuard (if neg then .neq else .eql) t X Y v (a.eval Y); binOp (if neg then .neq else .eql) t v (a.eval Y)).run P w=.ok q w∧Vl w S ρ r q:=by
 unfold aNilc at h
 split at h <;> simp only [Option.some.injEq,Prod.mk.injEq,reduceCtorEq] at h <;> obtain ⟨rfl,rfl⟩:=h
 ·obtain ⟨t1,rfl⟩:=ht
  obtain e | ⟨us,hc,rfl⟩:=hx
  ·cases e
  ·cases hc with
   | iface _ _ _ _ =>
    refine ⟨_,?_,Vl.bool' _⟩
    cases neg <;> simp [Act.eval,wrapv,AV.multi,eqGuard,run_eql_held_nil _ _ _ _ t1,run_neq_held_nil _ _ _ _ t1]
 ·obtain ⟨t1,rfl⟩:=ht
  rw [hx.con]
  refine ⟨_,?_,Vl.bool' _⟩
  cases neg <;> simp [Act.eval,eqGuard,run_eql_nil_nil _ _ t1,run_neq_nil_nil _ _ t1]
 ·obtain ⟨t1,rfl⟩:=ht
  obtain ⟨g,L,_,_,rfl⟩:=hx.ref
  refine ⟨_,?_,Vl.bool' _⟩
  cases neg <;> simp [Act.eval,eqGuard,run_eql_pointer_nil _ _ _ t1,run_neq_pointer_nil _ _ _ t1]
 ·obtain ⟨t1,rfl⟩:=ht
  obtain ⟨us,b,base,_,_,_,_,rfl⟩:=hx.ptr
  refine ⟨_,?_,Vl.bool' _⟩
  cases neg <;> simp [Act.eval,eqGuard,run_eql_pointer_nil _ _ _ t1,run_neq_pointer_nil _ _ _ t1]
 ·obtain ⟨t1,rfl⟩:=ht
  obtain ⟨g,L,_,_,rfl⟩:=hx.rowp
  refine ⟨_,?_,Vl.bool' _⟩
  cases neg <;> simp [Act.eval,eqGuard,run_eql_pointer_nil _ _ _ t1,run_neq_pointer_nil _ _ _ t1]
 ·obtain ⟨t1,rfl⟩:=ht
  rw [hx.con]
  refine ⟨_,?_,Vl.bool' _⟩
  cases neg <;> simp [Act.eval,eqGuard,run_eql_pointer_nil _ _ _ t1,run_neq_pointer_nil _ _ _ t1]
 ·obtain ⟨⟨e,t1⟩,rfl⟩:=ht
  obtain e | ⟨us,hc,rfl⟩:=hx
  ·cases e
  ·cases hc with
   | sl0 _ _ _ _=>exact absurd rfl hp'
   | sl _ _ _ _ _ _ _ _ _ _ _ _ =>
    refine ⟨_,?_,Vl.bool' _⟩
    cases neg <;> simp [Act.eval,wrapv,AV.multi,eqGuard,Lib.run_eql_slice_nil _ _ _ _ _ _ _ _ t1,run_neq_slice_nil _ _ _ _ _ _ _ _ t1]
 ·obtain ⟨⟨e,t1⟩,rfl⟩:=ht
  rw [hx.con]
  refine ⟨_,?_,Vl.bool' _⟩
  cases neg <;> simp [Act.eval,eqGuard,Lib.run_eql_slice_nil _ _ _ _ _ _ _ _ t1,run_neq_slice_nil _ _ _ _ _ _ _ _ t1]
def unV (cs:List Value):List UInt8:=cs.map fun v=>toB (ofC v)
theorem unV_U (l:List UInt8):unV (l.map U)=l:=by
 unfold unV; rw [List.map_map]
 have:((fun v=>toB (ofC v))∘U)=id:=by funext u; exact toB_ub u
 rw [this,List.map_id]
def aEqA (neg:Bool) (n:Nat) (x y:AV):Option (AV × Prop) :=
 match x,y with
 | .blob a,.blob b=>some (.bool (if neg then !decide (unV a=unV b) else decide (unV a=unV b)),a=(unV a).map U∧b=(unV b).map U∧(unV a).length=n∧(unV b).length=n)
 | _,_=>none
theorem run_neq_of {t:TypeId} {x y:Array Value} {b:Bool} (h:(binOp .eql t (.agg x) (.agg y)).run P w=.ok (.bool b) w):(binOp .neq t (.agg x) (.agg y)).run P w=.ok (.bool (!b)) w:=by
 simp only [binOp,Sem.run_bind] at h ⊢
 cases hr:(Op.equal t (.agg x) (.agg y)).run P w with
 | ok c w' =>
  rw [hr] at h
  simp only [Result.andThen_ok,Sem.run_pure,Result.ok.injEq,Value.bool.injEq] at h ⊢
  obtain ⟨rfl,rfl⟩:=h
  exact ⟨rfl,rfl⟩
 | halt c w' => rw [hr] at h; cases h
theorem aEqA_ok {neg:Bool} {n:Nat} {x y r:AV} {p:Prop} {v u:Value} (h:aEqA neg n x y=some (r,p)) (hp' : p) (hx:Vl w S ρ x v) (hy:Vl w S ρ y u) {t e:TypeId} (X Y:Operand) (ht:P.underlying t=some (.array n e)) (he:P.underlying e=some (.int .u8))
  (hsz:(P.info? e).map (·.size)=some 1) (hg:P.eqGuardType P.depth t=false) :
  ∃ q,(do eqGuard (if neg then .neq else .eql) t X Y v u; binOp (if neg then .neq else .eql) t v u).run P w=.ok q w∧Vl w S ρ r q:=by
 unfold aEqA at h
 split at h
 ·rename_i a b
  injection h with h; injection h with e1 e2; subst e1 e2
  obtain ⟨p1,p2,p3,p4⟩:=hp'
  rw [hx.blob,hy.blob]
  obtain ⟨j,hj1,hj2⟩:=Option.map_eq_some_iff.1 hsz
  have h1:=run_eql_bytes w t e n ht he (fun w=>by simp [sizeOf,typeInfo,hj1,hj2]) (unV a) (unV b) p3 p4
  rw [show (List.map Extern.Stop.cell (unV a))=(unV a).map U from rfl,show (List.map Extern.Stop.cell (unV b))=(unV b).map U from rfl,← p1,← p2] at h1
  have e1:(unV a == unV b)=decide (unV a=unV b):=by rw [Bool.eq_iff_iff]; simp
  rw [e1] at h1
  cases neg with
  | false =>
   simp only [Bool.false_eq_true,if_false,Sem.run_bind,run_eqGuard_agg _ _ _ _ _ _ _ hg,Result.andThen_ok,h1]
   exact ⟨_,rfl,Vl.bool' _⟩
  | true =>
   simp only [if_true,Sem.run_bind,run_eqGuard_agg _ _ _ _ _ _ _ hg,Result.andThen_ok,run_neq_of h1]
   exact ⟨_,rfl,Vl.bool' _⟩
 ·cases h
def eqFs (x y:AV):List (Nat × Rt × Nat)→Option (Bool × Prop)
 | []=>some (true,True)
 | (o,rt,k) :: r=>match aFld o rt x,aFld o rt y,eqFs x y r with
  | some (a,p),some (b,q),some (c,s)=>if k=0 then (match a,b with
    | .str l,.str m=>some (decide (l=m) && c,p∧q∧s)
    | _,_=>none) else if k=1 then (match a,b with
    | .int k1 l,.int k2 m=>some (decide (l=m) && c,(p∧k1=k2)∧q∧s)
    | _,_=>none) else (match aEqA false k a b with
    | some (.bool d,t)=>some (d && c,p∧q∧t∧s)
    | _=>none)
  | _,_,_=>none
def aEqS (neg:Bool) (fs:List (Nat × Rt × Nat)) (x y:AV):Option (AV × Prop) :=
 match eqFs x y fs with
 | some (c,p)=>some (.bool (if neg then !c else c),p)
 | none=>none
inductive EqFOk (P : Program) : Nat → Nat → Nat → List Field → List (Nat × Rt × Nat) → Prop
 | nil (d b n : Nat) : EqFOk P d b n [] []
 | leaf (d b n : Nat) (f : Field) (fl : List Field) (rt : Rt) (k : Nat) (r : List (Nat × Rt × Nat)) : f.name ≠ "_" → RtOk P f.type rt → f.offset + rt.size ≤ n →
   (if k = 0 then P.underlying f.type = some .string else if k = 1 then ∃ i, P.underlying f.type = some (.int i) else ∃ e, P.underlying f.type = some (.array k e) ∧ P.underlying e = some (.int .u8) ∧ (P.info? e).map (·.size) = some 1) → EqFOk P d b n fl r → EqFOk P d b n (f :: fl) ((b + f.offset, rt, k) :: r)
 | node (d b n : Nat) (f : Field) (fl : List Field) (m : Nat) (r1 r2 : List (Nat × Rt × Nat)) : f.name ≠ "_" → RtOk P f.type (.st m) → f.offset + m ≤ n → P.underlying f.type = some (.struct (P.fieldsOf f.type)) → P.stoodInHeld f.type = false →
   EqFOk P d (b + f.offset) m (P.fieldsOf f.type).toList r1 → EqFOk P (d + 1) b n fl r2 → EqFOk P (d + 1) b n (f :: fl) (r1 ++ r2)
theorem part_ok {rt:Rt} {r:AV} {p:Prop} {t:TypeId} {ps:List (Nat × AV)} {o:Nat} {us:List Value} (h:rdP rt ps o 0=some (r,p)) (hp' : p) (hc:Cs w S ρ (.agg ps) us) (hr:RtOk P t rt) :
  ∃ q,(part t us.toArray o).run P w=.ok q w∧Vl w S ρ r q:=by
 obtain ⟨h1,h2⟩:=rdP_ok hc.parts h hp'
 refine ⟨_,?_,h2⟩
 simp only [part,hr.agg,Sem.run_bind,Result.andThen_ok]
 cases hag:rt.isAgg with
 | true =>
  simp only [if_true,Sem.run_bind,hr.size,Result.andThen_ok,Sem.run_pure,Nat.add_zero]
  congr 2
  apply Array.ext'
  simp [List.take_drop,List.extract_eq_drop_take',Nat.add_comm]
 | false =>
  have h1' : rt.size=1:=by cases rt <;> first | rfl | cases hag
  simp only [Bool.false_eq_true,if_false,Nat.add_zero]
  rw [List.getElem?_toArray,List.getElem?_eq_getElem (by omega),List.getD_eq_getElem?_getD,List.getElem?_eq_getElem (by omega)]
  rfl
theorem part_extract {rt:Rt} {t:TypeId} (hr:RtOk P t rt) (us:Array Value) (a m o:Nat) (ho:o+rt.size≤m):(part t (us.extract a (a+m)) o).run P w=(part t us (a+o)).run P w:=by
 simp only [part,hr.agg,Sem.run_bind,Result.andThen_ok]
 cases hag:rt.isAgg with
 | true =>
  simp only [if_true,Sem.run_bind,hr.size,Result.andThen_ok,Sem.run_pure]
  congr 2
  rw [Array.extract_extract]
  congr 1
  omega
 | false =>
  have h1' : rt.size=1:=by cases rt <;> first | rfl | cases hag
  have e:(us.extract a (a+m))[o]?=us[a+o]?:=by
   rw [Array.getElem?_extract]
   split
   ·rfl
   ·rename_i h
    rw [Array.getElem?_eq_none (by omega)]
  simp only [Bool.false_eq_true,if_false,e]
theorem part_st {t:TypeId} {m:Nat} (hr:RtOk P t (.st m)) (us:Array Value) (o:Nat):(part t us o).run P w=.ok (.agg (us.extract o (o+m))) w:=by
 simp only [part,hr.agg,Sem.run_bind,Result.andThen_ok,Rt.isAgg,if_true,hr.size,Sem.run_pure,Rt.size]
theorem eqFs_append {x y:AV}:∀ (r1 r2:List (Nat × Rt × Nat)) {c:Bool} {p:Prop},eqFs x y (r1 ++ r2)=some (c,p)→p→∃ c1 p1 c2 p2,eqFs x y r1=some (c1,p1)∧eqFs x y r2=some (c2,p2)∧p1∧p2∧c=(c1 && c2):=by
 intro r1
 induction r1 with
 | nil=>intro r2 c p h hp'; exact ⟨true,True,c,p,rfl,h,trivial,hp',by simp⟩
 | cons g r1 ih =>
  intro r2 c p h hp'
  obtain ⟨o,rt,k⟩:=g
  simp only [List.cons_append,eqFs] at h
  split at h
  ·rename_i a p1 b p2 c' p3 ha hb hc'
   have key:∀ (b0:Bool) (q0:Prop),c=(b0 && c')→(p↔q0∧p3)→(∀ c1 p4,eqFs x y r1=some (c1,p4)→p4→eqFs x y ((o,rt,k) :: r1)=some (b0 && c1,q0∧p4)∨∃ z,eqFs x y ((o,rt,k) :: r1)=some (b0 && c1,z)∧z) →
     ∃ c1 p1 c2 p2,eqFs x y ((o,rt,k) :: r1)=some (c1,p1)∧eqFs x y r2=some (c2,p2)∧p1∧p2∧c=(c1 && c2):=by
    intro b0 q0 e1 e2 e3
    obtain ⟨hq0,hp3⟩:=e2.1 hp'
    obtain ⟨c1,p4,c2,p5,k1,k2,k3,k4,rfl⟩:=ih r2 hc' hp3
    rcases e3 c1 p4 k1 k3 with e4 | ⟨z,e4,hz⟩
    ·exact ⟨_,_,c2,p5,e4,k2,⟨hq0,k3⟩,k4,by rw [e1,Bool.and_assoc]⟩
    ·exact ⟨_,_,c2,p5,e4,k2,hz,k4,by rw [e1,Bool.and_assoc]⟩
   by_cases hk0:k=0
   ·rw [if_pos hk0] at h
    split at h
    ·rename_i l m
     simp only [Option.some.injEq,Prod.mk.injEq] at h
     obtain ⟨rfl,rfl⟩:=h
     exact key (decide (l=m)) (p1∧p2) rfl ⟨fun h=>⟨⟨h.1,h.2.1⟩,h.2.2⟩,fun h=>⟨h.1.1,h.1.2,h.2⟩⟩ fun c1 p4 k1 k2=>.inr ⟨p1∧p2∧p4,by simp only [eqFs,ha,hb,k1,if_pos hk0],hp'.1,hp'.2.1,k2⟩
    ·cases h
   ·rw [if_neg hk0] at h
    by_cases hk1:k=1
    ·rw [if_pos hk1] at h
     split at h
     ·rename_i q1 l q2 m
      simp only [Option.some.injEq,Prod.mk.injEq] at h
      obtain ⟨rfl,rfl⟩:=h
      exact key _ ((p1∧q1=q2)∧p2) rfl ⟨fun h=>⟨⟨h.1,h.2.1⟩,h.2.2⟩,fun h=>⟨h.1.1,h.1.2,h.2⟩⟩ fun c1 p4 k1 k2=>.inr ⟨(p1∧q1=q2)∧p2∧p4,by simp only [eqFs,ha,hb,k1,if_neg hk0,if_pos hk1],hp'.1,hp'.2.1,k2⟩
     ·cases h
    ·rw [if_neg hk1] at h
     split at h
     ·rename_i dd t hq
      simp only [Option.some.injEq,Prod.mk.injEq] at h
      obtain ⟨rfl,rfl⟩:=h
      exact key dd (p1∧p2∧t) rfl ⟨fun h=>⟨⟨h.1,h.2.1,h.2.2.1⟩,h.2.2.2⟩,fun h=>⟨h.1.1,h.1.2.1,h.1.2.2,h.2⟩⟩ fun c1 p4 k1 k2=>.inr ⟨p1∧p2∧t∧p4,by simp only [eqFs,ha,hb,k1,if_neg hk0,if_neg hk1,hq],hp'.1,hp'.2.1,hp'.2.2.1,k2⟩
     ·cases h
  ·cases h
theorem eqFs_ok {ps qs:List (Nat × AV)} {us vs:List Value} (hx:Cs w S ρ (.agg ps) us) (hy:Cs w S ρ (.agg qs) vs) {d b n:Nat} {fl:List Field} {fs:List (Nat × Rt × Nat)} (hf:EqFOk P d b n fl fs) :
  ∀ (c:Bool) (p:Prop),eqFs (.agg ps) (.agg qs) fs=some (c,p)→p→∀ (us' vs' : Array Value),(∀ t rt o,RtOk P t rt→o+rt.size≤n→(part t us' o).run P w=(part t us.toArray (b+o)).run P w)→(∀ t rt o,RtOk P t rt→o+rt.size≤n→(part t vs' o).run P w=(part t vs.toArray (b+o)).run P w) →
  (Op.eqFields (d+2) us' vs' fl).run P w=.ok c w:=by
 induction hf with
 | nil d b n =>
  intro c p h _ us' vs' _ _
  simp only [eqFs,Option.some.injEq,Prod.mk.injEq] at h; obtain ⟨rfl,_⟩:=h; rfl
 | leaf d b n f fl rt k r hn hr hle hk hf ih =>
  intro c p h hp' us' vs' hus hvs
  simp only [eqFs] at h
  split at h
  ·rename_i a p1 b' p2 c' p3 ha hb hc'
   unfold aFld at ha hb
   simp only at ha hb
   have fin:∀ (r:Bool) (q1 q2:Value),(part f.type us.toArray (b+f.offset)).run P w=.ok q1 w→(part f.type vs.toArray (b+f.offset)).run P w=.ok q2 w→(Op.equalIn (d+2) f.type q1 q2).run P w=.ok r w→p3→(Op.eqFields (d+2) us' vs' (f :: fl)).run P w=.ok (r && c') w:=by
    intro r q1 q2 h1 h2 h3 h4
    simp only [Op.eqFields,if_pos hn,Sem.run_bind,hus _ _ _ hr hle,hvs _ _ _ hr hle,h1,h2,h3,Result.andThen_ok,Sem.run_ite]
    cases r with
    | false=>simp
    | true=>simpa using ih c' p3 hc' h4 us' vs' hus hvs
   by_cases hk0:k=0
   ·rw [if_pos hk0] at h hk
    split at h
    ·rename_i l m
     simp only [Option.some.injEq,Prod.mk.injEq] at h
     obtain ⟨rfl,rfl⟩:=h
     obtain ⟨h1,h2,h3⟩:=hp'
     obtain ⟨q1,e1,v1⟩:=part_ok ha h1 hx hr
     obtain ⟨q2,e2,v2⟩:=part_ok hb h2 hy hr
     refine fin _ q1 q2 e1 e2 ?_ h3
     rw [v1.str,v2.str,run_equalIn_string w (d+1) f.type _ _ hk,ByteArray.toList_eq,ByteArray.toList_eq]
     congr 1
     rw [Bool.eq_iff_iff]; simp
    ·cases h
   ·rw [if_neg hk0] at h hk
    by_cases hk1:k=1
    ·rw [if_pos hk1] at h hk
     obtain ⟨ik,hk⟩:=hk
     split at h
     ·rename_i k1 l k2 m
      simp only [Option.some.injEq,Prod.mk.injEq] at h
      obtain ⟨rfl,rfl⟩:=h
      obtain ⟨⟨h1,h4⟩,h2,h3⟩:=hp'
      obtain ⟨q1,e1,v1⟩:=part_ok ha h1 hx hr
      obtain ⟨q2,e2,v2⟩:=part_ok hb h2 hy hr
      refine fin _ q1 q2 e1 e2 ?_ h3
      subst h4
      have e3:(l == m)=decide (l=m):=by rw [Bool.eq_iff_iff]; simp
      have e4:(Op.equalIn (d+2) f.type (.int k1 l) (.int k1 m)).run P w=.ok (l == m) w:=by
       simp only [Op.equalIn,Sem.run_bind,run_underlying hk,Result.andThen_ok,if_true,Sem.run_pure]
      rw [v1.int,v2.int,e4,e3]
     ·cases h
    ·rw [if_neg hk1] at h hk
     obtain ⟨e,k1,k2,k3⟩:=hk
     split at h
     ·rename_i dd t hq
      simp only [Option.some.injEq,Prod.mk.injEq] at h
      obtain ⟨rfl,rfl⟩:=h
      obtain ⟨h1,h2,h4,h3⟩:=hp'
      obtain ⟨q1,e1,v1⟩:=part_ok ha h1 hx hr
      obtain ⟨q2,e2,v2⟩:=part_ok hb h2 hy hr
      refine fin _ q1 q2 e1 e2 ?_ h3
      unfold aEqA at hq
      split at hq
      ·rename_i xa xb
       simp only [Bool.false_eq_true,if_false,Option.some.injEq,Prod.mk.injEq,AV.bool.injEq] at hq
       obtain ⟨rfl,rfl⟩:=hq
       obtain ⟨m1,m2,m3,m4⟩:=h4
       rw [v1.blob,v2.blob]
       obtain ⟨j,hj1,hj2⟩:=Option.map_eq_some_iff.1 k3
       have h1:=run_equalIn_bytes w d f.type e k k1 k2 (fun w=>by simp [sizeOf,typeInfo,hj1,hj2]) (unV xa) (unV xb) m3 m4
       rw [show (List.map Extern.Stop.cell (unV xa))=(unV xa).map U from rfl,show (List.map Extern.Stop.cell (unV xb))=(unV xb).map U from rfl,← m1,← m2] at h1
       rw [h1]
       congr 1
       rw [Bool.eq_iff_iff]; simp
      ·cases hq
     ·cases h
  ·cases h
 | node d b n f fl m r1 r2 hn hr hle hu hs h1 h2 ih1 ih2 =>
  intro c p h hp' us' vs' hus hvs
  obtain ⟨c1,p1,c2,p2,k1,k2,k3,k4,rfl⟩:=eqFs_append r1 r2 h hp'
  have e1:=part_st (w:=w) hr us' f.offset
  have e2:=part_st (w:=w) hr vs' f.offset
  have sub:∀ (us:List Value) (us' : Array Value),(∀ t rt o,RtOk P t rt→o+rt.size≤n→(part t us' o).run P w=(part t us.toArray (b+o)).run P w)→∀ t rt o,RtOk P t rt→o+rt.size≤m→(part t (us'.extract f.offset (f.offset+m)) o).run P w=(part t us.toArray (b+f.offset+o)).run P w:=by
   intro us us' hus t rt o hrt ho
   rw [part_extract hrt us' f.offset m o ho,hus t rt (f.offset+o) hrt (by omega),Nat.add_assoc]
  have e3:(Op.equalIn (d+1+2) f.type (.agg (us'.extract f.offset (f.offset+m))) (.agg (vs'.extract f.offset (f.offset+m)))).run P w=.ok c1 w:=by
   rw [run_equalIn_struct w (d+2) f.type _ _ hu hs]
   exact ih1 c1 p1 k1 k3 _ _ (sub us us' hus) (sub vs vs' hvs)
  simp only [Op.eqFields,if_pos hn,Sem.run_bind,e1,e2,e3,Result.andThen_ok,Sem.run_ite]
  cases c1 with
  | false=>simp
  | true=>simpa using ih2 c2 p2 k2 k4 us' vs' hus hvs
theorem aEqS_ok {neg:Bool} {fs:List (Nat × Rt × Nat)} {x y r:AV} {p:Prop} {v u:Value} (h:aEqS neg fs x y=some (r,p)) (hp' : p) (hx:Vl w S ρ x v) (hy:Vl w S ρ y u) {t:TypeId} (X Y:Operand) (ht:P.underlying t=some (.struct (P.fieldsOf t))) {n:Nat} (hf:EqFOk P 9997 0 n (P.fieldsOf t).toList fs)
  (hs:P.stoodInHeld t=false) (hg:P.eqGuardType P.depth t=false) (hne:fs≠[]) :
  ∃ q,(do eqGuard (if neg then .neq else .eql) t X Y v u; binOp (if neg then .neq else .eql) t v u).run P w=.ok q w∧Vl w S ρ r q:=by
 unfold aEqS at h
 split at h
 ·rename_i c p' he
  injection h with h; injection h with e1 e2; subst e1 e2
  have agg:∃ ps qs,x=.agg ps∧y=.agg qs:=by
   cases fs with
   | nil=>exact absurd rfl hne
   | cons g fs =>
    obtain ⟨o,rt,k⟩:=g
    simp only [eqFs] at he
    split at he
    ·rename_i ha hb _
     unfold aFld at ha hb
     cases x <;> cases y <;> first | exact ⟨_,_,rfl,rfl⟩ | cases ha | cases hb
    ·cases he
  obtain ⟨ps,qs,rfl,rfl⟩:=agg
  obtain ⟨us,hc,rfl⟩:=hx.agg
  obtain ⟨vs,hd,rfl⟩:=hy.agg
  have h1:=eqFs_ok hc hd hf _ _ he hp' us.toArray vs.toArray (fun _ _ _ _ _=>by rw [Nat.zero_add]) (fun _ _ _ _ _=>by rw [Nat.zero_add])
  have h2:(Op.equalIn 10000 t (.agg us.toArray) (.agg vs.toArray)).run P w=.ok c w:=by rw [run_equalIn_struct w 9999 t _ _ ht hs]; exact h1
  cases neg with
  | false =>
   simp only [Bool.false_eq_true,if_false,Sem.run_bind,run_eqGuard_agg _ _ _ _ _ _ _ hg,Result.andThen_ok,run_eql_struct,h2]
   exact ⟨_,rfl,Vl.bool' _⟩
  | true =>
   simp only [if_true,Sem.run_bind,run_eqGuard_agg _ _ _ _ _ _ _ hg,Result.andThen_ok,run_neq_struct,h2]
   exact ⟨_,rfl,Vl.bool' _⟩
 ·cases h
def aMm (mx:Bool) (x y:AV):Option (AV × Prop) :=
 match x,y with
 | .int k a,.int _ b=>some (.int k (if mx then max a b else min a b),True)
 | _,_=>none
theorem aMm_ok {mx:Bool} {x y r:AV} {p:Prop} {v u:Value} (h:aMm mx x y=some (r,p)) (hx:Vl w S ρ x v) (hy:Vl w S ρ y u) (ts:Array TypeId) (t:TypeId) :
  ∃ q,(if mx then (Builtin.max_ ts t #[v,u]).run P w else (Builtin.min_ ts t #[v,u]).run P w)=.ok q w∧Vl w S ρ r q:=by
 unfold aMm at h
 split at h
 ·rename_i k a k' b
  injection h with h; injection h with e1 e2; subst e1 e2
  rw [hx.int,hy.int]
  cases mx with
  | false =>
   refine ⟨.int k (min a b),?_,Vl.int' _ _⟩
   simp only [Bool.false_eq_true,if_false,Builtin.min_,List.foldlM,Builtin.min2]
   have:(if b<a then b else a)=min a b:=by omega
   simp [this]
  | true =>
   refine ⟨.int k (max a b),?_,Vl.int' _ _⟩
   simp only [if_true,Builtin.max_,List.foldlM,Builtin.max2]
   have:(if b > a then b else a)=max a b:=by omega
   simp [this]
 ·cases h
def aMkfn (f:Fn) (first cap:List AV):Option (AV × Prop):=if first.all AV.one && cap.all AV.one then some (.fn f first cap,True) else none
def aMkif (t:TypeId) (x:AV):Option (AV × Prop) :=
 match x with
 | .tup _=>none
 | .top=>none
 | x=>some (.iface t x,True)
def aBuild (s:St):List (Nat × AV)→List (Nat × Nat × Opd)→Option (List (Nat × AV) × Prop)
 | zs,[]=>some (zs,True)
 | zs,(o,n,x) :: r=>match szOk n (s.ev x),spl zs o n (pparts n (s.ev x)) with
  | some p,some zs' => match aBuild s zs' r with
   | some (q,p')=>some (q,p∧p')
   | none=>none
  | _,_=>none
def toV:AV→Option Value
 | .int k n=>some (.int k n)
 | .bool b=>some (.bool b)
 | .str l=>some (.string ⟨l.toArray⟩)
 | .con x=>some x
 | _=>none
theorem toV_ok {x:AV} {u v:Value} (h:toV x=some u) (hx:Vl w S ρ x v):v=u∧u.oneCell' = true:=by
 have ho:x.one=true:=by cases x <;> first | rfl | cases h
 have hc:=(hx.cs1 ho).one v (by simp)
 have:v=u:=by
  cases x <;> simp only [toV,reduceCtorEq,Option.some.injEq] at h
  case int=>rw [hx.int,h]
  case bool=>rw [hx.bool,h]
  case str=>rw [hx.str,h]
  case con=>rw [hx.con,h]
 exact ⟨this,this ▸ hc⟩
def aBuildA (s:St):List Value→List (Nat × Opd)→Option (List Value)
 | zs,[]=>some zs
 | zs,(i,x) :: r=>if i<zs.length then match toV (s.ev x) with
  | some v=>aBuildA s (zs.set i v) r
  | none=>none else none
theorem aBuild_ok {s:St} {a:Act} (hf:FrOk w S ρ s.fr a.tmps) {place:Nat→Option (Nat × Nat)}:∀ (parts:List (Nat × Operand)) (prs:List (Nat × Nat × Opd)) (zs qs:List (Nat × AV)) (p:Prop) (us:List Value),
  (∀ j:Nat,(parts[j]?).map (fun (q:Nat × Operand)=>(place q.1,opd q.2))=(prs[j]?).map fun (q:Nat × Nat × Opd)=>(some (q.1,q.2.1),q.2.2))→aBuild s zs prs=some (qs,p)→p→Css w S ρ zs us →
  ∃ us',Instr.fill place us.toArray (parts.map fun q=>(q.1,a.eval q.2))=some us'.toArray∧Css w S ρ qs us' := by
 intro parts
 induction parts with
 | nil =>
  intro prs zs qs p us hj h hp hz
  cases prs with
  | nil=>simp only [aBuild,Option.some.injEq,Prod.mk.injEq] at h; obtain ⟨rfl,rfl⟩:=h; exact ⟨us,rfl,hz⟩
  | cons q prs=>have:=hj 0; simp at this
 | cons q parts ih =>
  intro prs zs qs p us hj h hp hz
  cases prs with
  | nil=>have:=hj 0; simp at this
  | cons r prs =>
   obtain ⟨i,X⟩:=q
   obtain ⟨o,n,x⟩:=r
   have h0:=hj 0
   simp only [List.getElem?_cons_zero,Option.map_some,Option.some.injEq,Prod.mk.injEq] at h0
   obtain ⟨h0,rfl⟩:=h0
   simp only [aBuild] at h
   split at h
   ·rename_i p1 zs' hs1 hs2
    split at h
    ·rename_i q' p' hq
     simp only [Option.some.injEq,Prod.mk.injEq] at h
     obtain ⟨rfl,rfl⟩:=h
     have hne:s.ev (opd X)≠.top:=by intro e; rw [e] at hs1; cases hs1
     have hnt:∀ xs,s.ev (opd X)≠.tup xs:=by intro xs e; rw [e] at hs1; cases hs1
     obtain ⟨vs,hc,hv⟩:=(ev_ok hf X).cs hne hnt
     have hl:=szOk_ok hc hs1 hp.1
     obtain ⟨k1,k2⟩:=spl_ok hz (Css.single hc hl) hs2
     have hcl:=cells_wrapv hc (hc.multi_or hne)
     have hvs:(a.eval X).cells.size=n:=by rw [hv,← Array.length_toList,hcl,hl]
     obtain ⟨us',hf',hc'⟩:=ih prs zs' _ p' _ (fun j=>by have:=hj (j+1); simpa using this) hq hp.2 k1
     refine ⟨us',?_,hc'⟩
     rw [List.map_cons,fill_step h0 hvs (by simpa using k2),← hf',hv,hcl]
    ·cases h
   ·cases h
theorem aBuildA_ok {s:St} {a:Act} (hf:FrOk w S ρ s.fr a.tmps):∀ (parts:List (Nat × Operand)) (zs qs:List Value),
  aBuildA s zs (parts.map fun q=>(q.1,opd q.2))=some qs→(∀ u∈zs,u.oneCell' = true)→Instr.fill (fun i=>some (i * 1,1)) zs.toArray (parts.map fun q=>(q.1,a.eval q.2))=some qs.toArray∧(∀ u∈qs,u.oneCell' = true):=by
 intro parts
 induction parts with
 | nil=>intro zs qs h ho; simp only [List.map_nil,aBuildA,Option.some.injEq] at h; subst h; exact ⟨rfl,ho⟩
 | cons q parts ih =>
  intro zs qs h ho
  obtain ⟨i,X⟩:=q
  simp only [List.map_cons,aBuildA] at h
  split at h
  ·rename_i hi
   split at h
   ·rename_i v hv
    obtain ⟨e,h1⟩:=toV_ok hv (ev_ok hf X)
    have hc:(a.eval X).cells=#[v]:=by rw [e]; cases v <;> first | rfl | cases h1
    obtain ⟨k1,k2⟩:=ih _ _ h (fun u hu=>by
     rcases List.mem_or_eq_of_mem_set hu with hu | rfl
     ·exact ho u hu
     ·exact h1)
    refine ⟨?_,k2⟩
    rw [List.map_cons,fill_step (off:=i * 1) (sz:=1) rfl (by rw [hc]; rfl) (by simp; omega),← k1,hc]
    congr 2
    simp only [Nat.mul_one,List.set_eq_take_append_cons_drop,if_pos hi]
    simp
   ·cases h
  ·cases h
theorem Mem.sl {Sc:Nat→Prop} {sz:Nat} {xs:List AV} {A:Option Addr} {n c:Nat} {us:List Value} (h:Mem w S sz xs A n c us) (hsz:0<sz) (hA:∀ b,ablk A=some b→Sc b) (hS:∀ b,S b→Sc b):Vl w Sc ρ (.sl sz xs) (.slice A n c):=by
 have hn:=h.len
 by_cases hx:xs=[]
 ·subst hx
  have:n=0:=by simpa using hn
  subst this
  exact .inr ⟨_,.sl0 sz A c h.max,rfl⟩
 ·have h0:0<us.length:=by rw [h.ulen]; exact Nat.mul_pos (List.length_pos_iff.2 hx) hsz
  obtain ⟨b,o,rfl,hc⟩:=h.cell h0
  rw [hn]
  exact .inr ⟨_,.sl sz xs us b o c (hA b rfl) (h.css.ext ⟨fun _ _=>rfl,hS,fun _ _ _ h=>h⟩).cs h.ulen hc (by rw [← hn]; exact h.cap) h.max,rfl⟩
structure KeyOk (P:Program) (k:TypeId) (ks:KS):Prop where
 check:∀ (w:World) (em:Bool) (q:MK),ks.ok q→(Instr.checkKey em 10000 k q.val).run P w=.ok () w
 find:∀ (w:World) (q:MK),ks.ok q→∀ es:List MapEntry,(∀ e∈es,∃ q',ks.ok q' ∧ e.key=q'.val) →
  ((Instr.findKey k q.val es).run P w=.ok none w∧∀ e∈es,e.key≠q.val)∨∃ j e,(Instr.findKey k q.val es).run P w=.ok (some (j,e.val)) w∧es[j]?=some e∧e.key=q.val
 stays:∀ (w:World) (q:MK),ks.ok q→(Instr.keyThatStays q.val q.val).run P w=.ok q.val w
theorem KeyOk.of_keyed {k:TypeId} {ks:KS} (K:Maps.Keyed P k) (h:∀ q,ks.ok q→∃ l,keyOf P k q.val=some l):KeyOk P k ks where
 check w em q hq:=(h q hq).elim fun l hl=>K.check w em hl
 find w q hq es hes:=(h q hq).elim fun l hl=>K.find w hl es fun e he=>by
  obtain ⟨q',hq',e1⟩:=hes e he
  rw [e1]; exact h q' hq'
 stays w q hq:=(h q hq).elim fun l hl=>K.stays w hl
theorem MK.val_inj {ks:KS}:∀ {a b:MK},ks.ok a→ks.ok b→a.val=b.val→a=b:=by
 intro a b ha hb h
 cases a <;> cases b <;> simp only [MK.val,reduceCtorEq,Value.int.injEq,Value.string.injEq,Value.agg.injEq] at h
 ·obtain ⟨rfl,rfl⟩:=h; rfl
 ·injection h with h; rw [List.toArray_inj h]
 ·have:=List.toArray_inj h
  congr 1
  exact (List.map_inj_right fun x y hxy=>by simp only [U,Value.int.injEq,true_and] at hxy; exact UInt8.toNat_inj.1 (by omega)).1 this
def mkOf (ks:KS) (x:AV):Option (MK × Prop) :=
 match ks,x with
 | .i k,.int k' n=>if k' = k then some (.i k n,k.min≤n∧n≤k.max) else none
 | .s,.str l=>some (.s l,l.length≤9223372036854775807)
 | .a n,.blob cs=>some (.a (unV cs),cs=(unV cs).map U∧cs.length=n)
 | _,_=>none
theorem mkOf_ok {ks:KS} {x:AV} {q:MK} {p:Prop} {v:Value} (h:mkOf ks x=some (q,p)) (hp:p) (hx:Vl w S ρ x v):ks.ok q∧v=q.val:=by
 unfold mkOf at h
 split at h
 ·split at h
  ·rename_i e; subst e
   injection h with h; injection h with e1 e2; subst e1 e2
   exact ⟨⟨rfl,hp⟩,hx.int⟩
  ·cases h
 ·injection h with h; injection h with e1 e2; subst e1 e2
  exact ⟨hp,hx.str⟩
 ·injection h with h; injection h with e1 e2; subst e1 e2
  refine ⟨?_,?_⟩
  ·show (unV _).length=_
   rw [← hp.2]; simp [unV]
  ·rw [hx.blob]; show Value.agg _=.agg _
   rw [← hp.1]
 ·cases h
def aMget (hp:List AObj) (ok:Bool) (ks:KS) (z m x:AV):Option (AV × Prop) :=
 match m with
 | .mpv id=>match hp[id]?,mkOf ks x with
  | some (.mp ks' es),some (q,p)=>if ks' = ks then match getM es q with
   | some y=>some (if ok then .tup [y,.bool true] else y,p)
   | none=>some (if ok then .tup [z,.bool false] else z,p)
   else none
  | _,_=>none
 | _=>none
def aMlen (hp:List AObj) (m:AV):Option (AV × Prop) :=
 match m with
 | .mpv id=>match hp[id]? with
  | some (.mp _ es)=>some (.int .i64 (es.length:Int),True)
  | _=>none
 | _=>none
theorem Vl.mpv {id:Nat} {v:Value} (h:Vl w S ρ (.mpv id) v):∃ g L,ρ id 0=some L∧L.A=some ⟨g,0,none⟩∧v=.map (some g):=by
 rcases h with h | ⟨us,h,e⟩
 ·cases h
 ·cases h with
  | mpv _ g L h1 h2=>exact ⟨g,L,h1,h2,e⟩
theorem MapOk.len {ks:KS}:∀ {es:List (MK × AV)} {l:List MapEntry},MapOk w S ρ ks es l→l.length=es.length
 | [],[],_=>rfl
 | _ :: _,_ :: _,⟨_,h⟩=>by simp [h.len]
 | [],_ :: _,h=>h.elim
 | _ :: _,[],h=>h.elim
theorem MapOk.keys {ks:KS}:∀ {es:List (MK × AV)} {l:List MapEntry},MapOk w S ρ ks es l→∀ e∈l,∃ q,ks.ok q∧e.key=q.val
 | [],[],_,e,he=>by simp at he
 | p :: _,x :: _,⟨⟨h1,h2,_⟩,h⟩,e,he=>by
  rcases List.mem_cons.1 he with rfl | he
  ·exact ⟨_,h1,h2⟩
  ·exact h.keys e he
 | [],_ :: _,h,_,_=>h.elim
 | _ :: _,[],h,_,_=>h.elim
theorem MapOk.none_ {ks:KS} {q:MK}:∀ {es:List (MK × AV)} {l:List MapEntry},MapOk w S ρ ks es l→(∀ e∈l,e.key≠q.val)→getM es q=none
 | [],[],_,_=>rfl
 | p :: _,x :: _,⟨⟨h1,h2,_⟩,h⟩,hn=>by
  obtain ⟨k,y⟩:=p
  unfold getM
  rw [if_neg (fun e=>hn x (by simp) (by rw [h2,e]))]
  exact h.none_ (fun e he=>hn e (by simp [he]))
 | [],_ :: _,h,_=>h.elim
 | _ :: _,[],h,_=>h.elim
theorem MapOk.some_ {ks:KS} {q:MK} (hq:ks.ok q):∀ {es:List (MK × AV)} {l:List MapEntry} {j:Nat} {e:MapEntry},MapOk w S ρ ks es l→(l.map (·.key)).Nodup→l[j]?=some e→e.key=q.val→∃ y us,getM es q=some y∧Cs w S ρ y us∧e.val=wrapv y us
 | [],[],j,e,_,_,he,_=>by simp at he
 | p :: r,x :: l,j,e,⟨⟨h1,h2,us,h3,h4⟩,h⟩,hn,he,hk=>by
  obtain ⟨k,y⟩:=p
  simp only [List.map_cons,List.nodup_cons] at hn
  cases j with
  | zero =>
   simp only [List.getElem?_cons_zero,Option.some.injEq] at he; subst he
   unfold getM
   rw [if_pos (MK.val_inj h1 hq (by rw [← h2,hk]))]
   exact ⟨y,us,rfl,h3,h4⟩
  | succ j =>
   simp only [List.getElem?_cons_succ] at he
   unfold getM
   rw [if_neg (fun e' => hn.1 (by
    rw [h2]; simp only
    rw [e',← hk]
    exact List.mem_map.2 ⟨e,List.mem_of_getElem? he,rfl⟩))]
   exact h.some_ hq hn.2 he hk
 | [],_ :: _,_,_,h,_,_,_=>h.elim
 | _ :: _,[],_,_,h,_,_,_=>h.elim
theorem aMget_ok {ok:Bool} {ks:KS} {z m x r:AV} {p:Prop} {vm vx zv:Value} {t k e:TypeId} {i:TypeInfo} (H:ObsOk w S ρ hp) (h:aMget hp ok ks z m x=some (r,p)) (hp' : p) (hm:Vl w S ρ m vm) (hx:Vl w S ρ x vx)
  (ht:P.underlying t=some (.map k e)) (K:KeyOk P k ks) (hi:P.info? e=some i) (hz:i.zero=some zv) (hzc:∃ us,Cs w S ρ z us∧zv=wrapv z us):∃ q,(Instr.lookup t vm vx ok).run P w=.ok q w∧Vl w S ρ r q:=by
 unfold aMget at h
 split at h
 ·rename_i id
  split at h
  ·rename_i ks' es q p' ho hk
   split at h
   ·rename_i e1; subst e1
    obtain ⟨g,L,h1,h2,rfl⟩:=hm.mpv
    obtain ⟨g',arr,clock,k1,k2,k3,k4,k5⟩:=H id _ ho (by simp)
    rw [h1] at k1; injection k1 with k1; subst k1
    injection h2 with h2; injection h2 with h2; subst h2
    obtain ⟨zu,zc,zw⟩:=hzc
    have zrun:(zeroValue e).run P w=.ok zv w:=by simp [zeroValue,typeInfo,hi,hz]
    have fin:∀ (b:Bool) (y:AV) (us:List Value) (v:Value),Cs w S ρ y us→v=wrapv y us→Vl w S ρ (if ok then .tup [y,.bool b] else y) (if ok then .tuple #[v,.bool b] else v):=by
     intro b y us v hc hv
     cases ok with
     | true =>
      refine ⟨[v,.bool b],rfl,rfl,fun i hi=>?_⟩
      match i,hi with
      | 0,_=>exact .inr ⟨us,hc,hv⟩
      | 1,_=>exact .inr ⟨_,.bool b,rfl⟩
     | false=>exact Vl1.vl (.inr ⟨us,hc,hv⟩)
    split at h
    ·rename_i y hy
     injection h with h; injection h with e1 e2; subst e1 e2
     obtain ⟨hq,rfl⟩:=mkOf_ok hk hp' hx
     rcases K.find w q hq arr.toList k3.keys with ⟨f1,f2⟩ | ⟨j,en,f1,f2,f3⟩
     ·rw [k3.none_ f2] at hy; cases hy
     ·obtain ⟨y',us,y1,y2,y3⟩:=k3.some_ hq k4.2.2 f2 f3
      rw [y1] at hy; injection hy with hy; subst hy
      exact ⟨_,by simp [Instr.lookup,run_underlying ht,MapKept.run_getObj_map k2,K.check w _ q hq,f1],fin true _ us en.val y2 y3⟩
    ·rename_i hy
     injection h with h; injection h with e1 e2; subst e1 e2
     obtain ⟨hq,rfl⟩:=mkOf_ok hk hp' hx
     rcases K.find w q hq arr.toList k3.keys with ⟨f1,f2⟩ | ⟨j,en,f1,f2,f3⟩
     ·exact ⟨_,by simp [Instr.lookup,run_underlying ht,MapKept.run_getObj_map k2,K.check w _ q hq,f1,zrun],fin false _ zu zv zc zw⟩
     ·obtain ⟨y',us,y1,y2,y3⟩:=k3.some_ hq k4.2.2 f2 f3
      rw [y1] at hy; cases hy
   ·cases h
  ·cases h
 ·cases h
theorem aMlen_ok {m r:AV} {p:Prop} {vm:Value} {t k e ty:TypeId} (H:ObsOk w S ρ hp) (h:aMlen hp m=some (r,p)) (hm:Vl w S ρ m vm) (ht:P.underlying t=some (.map k e)):∃ q,(Builtin.len_ #[t] ty #[vm]).run P w=.ok q w∧Vl w S ρ r q:=by
 unfold aMlen at h
 split at h
 ·rename_i id
  split at h
  ·rename_i ks es ho
   obtain ⟨g,L,h1,h2,rfl⟩:=hm.mpv
   obtain ⟨g',arr,clock,k1,k2,k3,k4,k5⟩:=H id _ ho (by simp)
   rw [h1] at k1; injection k1 with k1; subst k1
   injection h2 with h2; injection h2 with h2; subst h2
   injection h with h; injection h with e1 e2; subst e1 e2
   have hl:arr.size=es.length:=by rw [← k3.len]; simp
   exact ⟨_,by simp [Builtin.len_,run_underlying ht,MapKept.run_getObj_map k2,hl]; rfl,Vl.int' _ _⟩
  ·cases h
 ·cases h
def notIf:TypeDesc→Bool
 | .interface _=>false
 | _=>true
def aTas (t:TypeId) (x:AV):Option (AV × Prop) :=
 match x with
 | .iface t' y=>if t' = t then some (.tup [y,.bool true],True) else none
 | _=>none
theorem aTas_ok {t xt:TypeId} {x r:AV} {p:Prop} {v:Value} {u:TypeDesc} (h:aTas t x=some (r,p)) (hx:Vl w S ρ x v) (h1:P.underlying t=some u) (h2:notIf u=true) :
  ∃ q,(Instr.typeAssert v xt t true).run P w=.ok q w∧Vl w S ρ r q:=by
 unfold aTas at h
 split at h
 ·rename_i t' y
  split at h
  ·rename_i e; subst e
   injection h with h; injection h with e1 e2; subst e1 e2
   obtain ⟨us,hc,hv⟩:=hx.cs (by simp) (by simp)
   cases hc with
   | iface _ _ vs hy =>
    refine ⟨.tuple #[wrapv y vs,.bool true],?_,[wrapv y vs,.bool true],rfl,rfl,fun i hi=>?_⟩
    ·have hv' : v=.iface t' (wrapv y vs):=hv
     subst hv'
     cases u <;> first | exact absurd h2 Bool.false_ne_true | simp [Instr.typeAssert,run_underlying h1]
    ·match i,hi with
     | 0,_=>exact .inr ⟨_,hy,rfl⟩
     | 1,_=>exact .inr ⟨_,.bool true,rfl⟩
  ·cases h
 ·cases h
def aArr (n:Nat) (x:AV):Option (AV × Prop) :=
 match x with
 | .sl 1 xs=>some (.ptr n (.blob ((unB (xs.take n)).map U)) 0 0,xs.take n=Bs (unB (xs.take n))∧0<n∧n≤xs.length)
 | _=>none
theorem aArr_ok {n:Nat} {x r:AV} {p:Prop} {v:Value} {dst e:TypeId} (h:aArr n x=some (r,p)) (hp' : p) (hx:Vl w S ρ x v)
  (h2:P.underlying dst=some (.array n e)):∃ q,(Instr.arrayAt dst v).run P w=.ok q w∧Vl w S ρ r q:=by
 unfold aArr at h
 split at h
 ·rename_i xs
  injection h with h; injection h with e1 e2; subst e1 e2
  obtain ⟨k1,k2,k3⟩:=hp'
  generalize hl:unB (xs.take n)=l at *
  have hln:l.length=n:=by have:=congrArg List.length k1; rw [List.length_take,Bs_length] at this; omega
  have hc:=hx.sl
  generalize hvs:[v]=vs at hc
  cases hc with
  | sl0=>simp at k3; omega
  | sl _ _ us b o c hS h3 h4 h5 h6 h7 =>
   injection hvs with hvs; subst hvs
   have hcut:=h3.parts.cut (i:=0) (j:=n) (Nat.zero_le _) k3
   rw [Nat.zero_mul,List.drop_zero,List.drop_zero,Nat.mul_one,k1] at hcut
   have hus:=css_bytes_eq hcut
   refine ⟨.pointer (some ⟨b,o,none⟩),?_,.inr ⟨_,.ptr n (.blob (l.map U)) 0 0 (l.map U) b o hS (.blob _ fun u hu=>by obtain ⟨x,_,rfl⟩:=List.mem_map.1 hu; rfl) (by simpa using hln) (fun j hj=>?_),rfl⟩⟩
   ·have:¬ (xs.length<n):=by omega
    simp [Instr.arrayAt,run_underlying h2,this]
   ·rw [← hus] at hj ⊢
    rw [h5 j (by rw [List.length_take] at hj; omega),List.getElem?_take,if_pos (by rw [List.length_take] at hj; omega)]
 ·cases h
def aSlA (hp:List AObj) (n:Nat) (x:AV) (lo hi:Option AV):Option (AV × Prop) :=
 match aLo lo,aHi n hi with
 | some a,some b=>match x with
  | .ref id o 0=>some (.arv id o n a.toNat (b.toNat - a.toNat),0≤a∧a≤b∧b≤n∧a<n∧lenOk n)
  | .rowp id v i z o 0=>match hp[id]? with
   | some (.row _ _ v' xs)=>if v=v' then some (.arw id v i z o n a.toNat (b.toNat - a.toNat),(0≤a∧a≤b∧b≤n∧a<n∧lenOk n)∧i<xs.length) else none
   | _=>none
  | .ptr sz x o 0=>match rdP (.arr n) (pparts sz x) o 0 with
   | some (.blob cs,p)=>some (.sl 1 ((cutB cs n a.toNat (b.toNat - a.toNat)).map ofC),p∧(0≤a∧a≤b∧b≤n∧a<n∧lenOk n))
   | _=>none
  | _=>none
 | _,_=>none
theorem aSlA_ok {n:Nat} {x r:AV} {lo hi:Option AV} {p:Prop} {v:Value} {u1 u2:Option Value} {t e:TypeId} (H:ObsOk w S ρ hp) (h:aSlA hp n x lo hi=some (r,p)) (hp' : p) (hx:Vl w S ρ x v) (h1:Bd w S ρ lo u1) (h2:Bd w S ρ hi u2)
  (ht:P.underlying t=some (.array n e)) (he:(P.info? e).map (·.size)=some 1):∃ q,(Instr.sliceAt t v u1 u2 none).run P w=.ok q w∧Vl w S ρ r q:=by
 obtain ⟨j,hj1,hj2⟩:=Option.map_eq_some_iff.1 he
 have run:∀ {a b:Int} (g off:Nat),aLo lo=some a→aHi n hi=some b→0≤a→a≤b→b≤n→a<n→(Instr.sliceAt t (.pointer (some ⟨g,off,none⟩)) u1 u2 none).run P w=.ok (.slice (some ⟨g,off+a.toNat,none⟩) (b.toNat - a.toNat) (n - a.toNat)) w:=by
  intro a b g off ka kb p0 p1 p2 p3
  have hb:=run_bounds (P:=P) h1 h2 (c:=n) ka kb p0 p1 p2 false
  have hne:¬ n=a.toNat:=by omega
  simp [Instr.sliceAt,Instr.sureAddr,run_underlying ht,hb,sizeOf,typeInfo,hj1,hj2,hne,add_spot]
 unfold aSlA at h
 split at h
 ·rename_i a b ka kb
  split at h
  ·rename_i id o
   injection h with h; injection h with e1 e2; subst e1 e2
   obtain ⟨p0,p1,p2,p3,p4⟩:=hp'
   obtain ⟨g,L,hL,hA,rfl⟩:=hx.ref
   exact ⟨_,run g _ ka kb p0 p1 p2 p3,.inr ⟨_,.arv id o n _ _ g L hL hA (by omega) p4,by simp [wrapv,AV.multi]⟩⟩
  ·rename_i id ver i z o
   split at h
   ·rename_i e' s v' xs ho
    split at h
    ·rename_i e1; subst e1
     injection h with h; injection h with e1 e2; subst e1 e2
     obtain ⟨⟨p0,p1,p2,p3,p4⟩,p5⟩:=hp'
     obtain ⟨g,L,hL,hA,rfl⟩:=hx.rowp
     obtain ⟨L',us,k1,k2,_⟩:=H _ _ ho (by simp)
     rw [hL] at k1; injection k1 with k1; subst k1
     exact ⟨_,run g _ ka kb p0 p1 p2 p3,.inr ⟨_,.arw id ver i z o n _ _ g L hL hA (by omega) (by omega) p4,by simp [wrapv,AV.multi,Nat.add_assoc]⟩⟩
    ·cases h
   ·cases h
  ·rename_i sz x o
   split at h
   ·rename_i cs p' hr
    injection h with h; injection h with e1 e2; subst e1 e2
    obtain ⟨hpp,p0,p1,p2,p3,p4⟩:=hp'
    obtain ⟨us,b',base,hS,hc,hl,hcell,rfl⟩:=hx.ptr
    unfold rdP at hr
    simp only [if_true] at hr
    split at hr
    ·rename_i n' x' hpt
     have hcs:Css w S rho0 (pparts sz x) us:=by
      unfold pparts
      split
      ·exact hc.parts
      ·exact ⟨us,[],by simp,hl,hc,rfl⟩
     have hn:viewC n a.toNat (b.toNat - a.toNat) (pt (pparts sz x) o)=some ((cutB cs n a.toNat (b.toNat - a.toNat)).map ofC):=by
      rw [hpt]
      split at hr
      ·rename_i e1; subst e1
       injection hr with hr; injection hr with e2 e3; injection e2 with e2; subst e2
       simp [viewC]
      ·cases hr
     have hM:=viewC_ok (A:=⟨b',base,none⟩) hcs hn hcell (by omega) p4
     exact ⟨_,run b' _ ka kb p0 p1 p2 p3,by
      have:=hM.sl (ρ:=ρ) (Sc:=S) (by omega) (fun b hb=>by simp only [ablk,Option.map_some,Option.some.injEq] at hb; subst hb; exact hS) (fun _ h=>h)
      simpa [Nat.add_assoc] using this⟩
    ·cases hr
   ·cases h
  ·cases h
 ·cases h
def aval (s:St):AOp→Option (AV × Prop)
 | .mv x=>some (s.ev x,True)
 | .pick c a b=>match s.ev c with
  | .bool t=>some (if t then s.ev a else s.ev b,True)
  | _=>none
 | .bin op x y=>aBin op (s.ev x) (s.ev y)
 | .eqB neg x y=>aEqB neg (s.ev x) (s.ev y)
 | .nilc k neg x=>aNilc k neg (s.ev x)
 | .eqA neg n x y=>aEqA neg n (s.ev x) (s.ev y)
 | .eqS neg fs x y=>aEqS neg fs (s.ev x) (s.ev y)
 | .un op x=>aUn op (s.ev x)
 | .toInt k x=>aToInt k (s.ev x)
 | .toStr x=>aToStr s.hp (s.ev x)
 | .same x=>match s.ev x with
  | .str l=>some (.str l,True)
  | _=>none
 | .idxS x i=>aIdxS (s.ev x) (s.ev i)
 | .idxA n z x i=>aIdxA n z (s.ev x) (s.ev i)
 | .ia sz z x i=>aIa s.hp sz z (s.ev x) (s.ev i)
 | .iaA n x i=>aIaA n (s.ev x) (s.ev i)
 | .fld o rt x=>aFld o rt (s.ev x)
 | .fa o x=>aFa o (s.ev x)
 | .ld rt x=>aLd s.hp rt (s.ev x)
 | .slS x lo hi=>aSlS (s.ev x) (lo.map s.ev) (hi.map s.ev)
 | .sl sz x lo hi=>aSl s.hp sz (s.ev x) (lo.map s.ev) (hi.map s.ev)
 | .ext x i=>aExt (s.ev x) i
 | .nck x=>aNck (s.ev x)
 | .len n str x=>if n.isSome || (s.ev x).isStr == str then aLen s.hp n (s.ev x) else none
 | .mkfn f first cap=>aMkfn f (first.map s.ev) (cap.map s.ev)
 | .mkif t x=>aMkif t (s.ev x)
 | .mm mx x y=>aMm mx (s.ev x) (s.ev y)
 | .build zs parts=>(aBuild s zs parts).map fun (q:List (Nat × AV) × Prop)=>(.agg q.1,q.2)
 | .buildA zs parts=>(aBuildA s zs parts).map fun q=>(.blob q,True)
 | .s2a n x=>aArr n (s.ev x)
 | .slA n x lo hi=>aSlA s.hp n (s.ev x) (lo.map s.ev) (hi.map s.ev)
 | .mget ok ks z m x=>aMget s.hp ok ks z (s.ev m) (s.ev x)
 | .mlen m=>aMlen s.hp (s.ev m)
 | .tas t x=>aTas t (s.ev x)
 | _=>none
def Mt (P:Program) (op:Op):AOp→Prop
 | .mv x=>∃ X,(op=.move X∨op=.assign X)∧x=opd X
 | .pick c a b=>∃ C A B,op=.pick C A B∧c=opd C∧a=opd A∧b=opd B
 | .bin b x y=>∃ t X Y t',op=.binOp b t X Y t' ∧ x=opd X∧y=opd Y
 | .nilc k neg x=>∃ t X Y t',op=.binOp (if neg then .neq else .eql) t X Y t' ∧ NilT P t Y k∧x=opd X
 | .eqB neg x y=>∃ t X Y t',op=.binOp (if neg then .neq else .eql) t X Y t' ∧ P.underlying t=some .bool∧x=opd X∧y=opd Y
 | .eqA neg n x y=>∃ t X Y t' e,op=.binOp (if neg then .neq else .eql) t X Y t' ∧ P.underlying t=some (.array n e)∧P.underlying e=some (.int .u8)∧(P.info? e).map (·.size)=some 1∧P.eqGuardType P.depth t=false∧x=opd X∧y=opd Y
 | .eqS neg fs x y=>∃ t X Y t',op=.binOp (if neg then .neq else .eql) t X Y t' ∧ P.underlying t=some (.struct (P.fieldsOf t))∧(∃ n,EqFOk P 9997 0 n (P.fieldsOf t).toList fs)∧P.stoodInHeld t=false∧P.eqGuardType P.depth t=false∧fs≠[]∧x=opd X∧y=opd Y
 | .un b x=>∃ t X,op=.unOp b t X∧x=opd X
 | .toInt k x=>∃ src dst X,op=.convert src dst X∧(P.underlying src).isSome=true∧P.underlying dst=some (.int k)∧x=opd X
 | .toStr x=>∃ src dst e X,op=.convert src dst X∧P.underlying src=some (.slice e)∧P.underlying e=some (.int .u8)∧P.underlying dst=some .string∧x=opd X
 | .same x=>∃ src dst X,op=.convert src dst X∧P.underlying src=some .string∧P.underlying dst=some .string∧x=opd X
 | .idxS x i=>∃ t X I,op=.index t X I∧P.underlying t=some .string∧x=opd X∧i=opd I
 | .idxA n _ x i=>∃ t e X I,op=.index t X I∧P.underlying t=some (.array n e)∧(P.info? e).map (·.size)=some 1∧(match P.underlying e with | some (.struct _) | some (.array _ _) | none=>false | _=>true)=true∧x=opd X∧i=opd I
 | .ia sz _ x i=>∃ t e X I,op=.indexAddr t X I∧P.underlying t=some (.slice e)∧(P.info? e).map (·.size)=some sz∧x=opd X∧i=opd I
 | .iaA n x i=>∃ t e X I,op=.indexAddr t X I∧P.underlying t=some (.array n e)∧(P.info? e).map (·.size)=some 1∧x=opd X∧i=opd I
 | .fld o rt x=>∃ t fs k f X,op=.field t X k∧P.underlying t=some (.struct fs)∧fs[k]?=some f∧f.offset=o∧RtOk P f.type rt∧x=opd X
 | .fa o x=>∃ t fs k f X,op=.fieldAddr t X k∧P.underlying t=some (.struct fs)∧fs[k]?=some f∧f.offset=o∧(P.info? f.type).map (fun i=>decide (i.size=0))=some false∧x=opd X
 | .ld rt x=>∃ t X,op=.load t X∧RtOk P t rt∧x=opd X
 | .slS x lo hi=>∃ t X L H,op=.slice t X L H none∧P.underlying t=some .string∧x=opd X∧lo=L.map opd∧hi=H.map opd
 | .sl sz x lo hi=>∃ t e X L H,op=.slice t X L H none∧P.underlying t=some (.slice e)∧(P.info? e).map (·.size)=some sz∧x=opd X∧lo=L.map opd∧hi=H.map opd
 | .ext x i=>∃ X,op=.extract X i∧x=opd X
 | .nck x=>∃ X,op=.nilCheck X∧x=opd X
 | .len n str x=>∃ X t,op=.call { callee:=.builtin .len,args:=#[X],argTypes:=#[t] }∧LenOk P t n∧(n=none→if str then P.underlying t=some .string else ∃ e,P.underlying t=some (.slice e))∧x=opd X
 | .mkfn f first cap=>∃ A B,op=.makeFunc f A B∧first=A.toList.map opd∧cap=B.toList.map opd
 | .mkif t x=>∃ X,op=.makeInterface t X∧P.concrete t=true∧x=opd X
 | .mm mx x y=>∃ X Y ts,op=.call { callee:=.builtin (if mx then .max else .min),args:=#[X,Y],argTypes:=ts }∧x=opd X∧y=opd Y
 | .build zs prs=>∃ t parts z place,op=.build t parts∧(∀ vs,P.built t vs=Instr.fill place z vs)∧(∀ (w:World) (S:Nat→Prop) (ρ:Rho),Css w S ρ zs z.toList) ∧
   (∀ j:Nat,(parts.toList[j]?).map (fun (q:Nat × Operand)=>(place q.1,opd q.2))=(prs[j]?).map fun (q:Nat × Nat × Opd)=>(some (q.1,q.2.1),q.2.2))
 | .buildA zs prs=>∃ t parts,op=.build t parts∧(∀ vs,P.built t vs=Instr.fill (fun i=>some (i * 1,1)) zs.toArray vs)∧(zs.all fun u=>u.oneCell')=true∧prs=parts.toList.map fun (q:Nat × Operand)=>(q.1,opd q.2)
 | .bad=>True
 | .pan x=>∃ X,op=.panic X∧x=opd X
 | .slA n x lo hi=>∃ t e X L H,op=.slice t X L H none∧P.underlying t=some (.array n e)∧(P.info? e).map (·.size)=some 1∧x=opd X∧lo=L.map opd∧hi=H.map opd
 | .tas t x=>∃ X xt u,op=.typeAssert X xt t true∧P.underlying t=some u∧notIf u=true∧x=opd X
 | .s2a n x=>∃ dst e X,op=.sliceToArrayPointer dst X∧P.underlying dst=some (.array n e)∧x=opd X
 | .mget ok ks z m x=>∃ t k e i zv M X,op=.lookup t M X ok∧P.underlying t=some (.map k e)∧KeyOk P k ks∧P.info? e=some i∧i.zero=some zv∧(∀ (w:World) (S:Nat→Prop) (ρ:Rho),∃ us,Cs w S ρ z us∧zv=wrapv z us)∧m=opd M∧x=opd X
 | .mlen m=>∃ t k e M,op=.call { callee:=.builtin .len,args:=#[M],argTypes:=#[t] }∧P.underlying t=some (.map k e)∧m=opd M
 | _=>False
theorem bd_ok {s:St} {a:Act} (h:FrOk w S ρ s.fr a.tmps) (L:Option Operand):Bd w S ρ ((L.map opd).map s.ev) (L.map a.eval):=by
 cases L with
 | none=>trivial
 | some x=>exact ev_ok h x
theorem run_value {m:Sem Value} {q:Value} (h:m.run P w=.ok q w):(do pure (Next.value (← m)):Sem Next).run P w=.ok (.value q) w:=by
 simp only [Sem.run_bind,h,Result.andThen_ok]; rfl
theorem aval_ok {s:St} {a:Act} {o:Oper} {ao:AOp} {r:AV} {p:Prop} (H:ObsOk w S ρ s.hp) (hf:FrOk w S ρ s.fr a.tmps) (hm:Mt P o.op ao) (h:aval s ao=some (r,p)) (hp' : p) :
  ∃ q,(execOp a.eval o).run P w=.ok (.value q) w∧Vl w S ρ r q:=by
 have ev:=ev_ok hf
 cases ao <;> simp only [aval,reduceCtorEq] at h
 case mv x =>
  obtain ⟨X,ho,rfl⟩:=hm
  injection h with h; injection h with e1 e2; subst e1
  rcases ho with ho | ho <;> exact ⟨a.eval X,by simp [execOp,ho],ev X⟩
 case pick c a' b =>
  obtain ⟨C,A,B,ho,rfl,rfl,rfl⟩:=hm
  split at h
  ·rename_i t hc
   injection h with h; injection h with e1 e2; subst e1
   have hC:=ev C
   rw [hc] at hC
   have hC' := hC.bool
   cases t with
   | true=>exact ⟨a.eval A,by simp [execOp,ho,hC',asBool],ev A⟩
   | false=>exact ⟨a.eval B,by simp [execOp,ho,hC',asBool],ev B⟩
  ·cases h
 case bin op x y =>
  obtain ⟨t,X,Y,t',ho,rfl,rfl⟩:=hm
  obtain ⟨q,hq,hv⟩:=aBin_ok (P:=P) h hp' (ev X) (ev Y) t X Y
  exact ⟨q,by simp only [execOp,ho]; exact run_value hq,hv⟩
 case eqB neg x y =>
  obtain ⟨t,X,Y,t',ho,ht,rfl,rfl⟩:=hm
  unfold aEqB at h
  split at h
  ·rename_i u v hu hv
   injection h with h; injection h with e1 e2; subst e1
   have h1:=(hu ▸ ev X).bool
   have h2:=(hv ▸ ev Y).bool
   refine ⟨_,?_,Vl.bool' _⟩
   simp only [execOp,ho,h1,h2]
   refine run_value ?_
   cases neg with
   | false=>simp [eqGuard_at_bool,run_eql_bool _ _ _ _ ht]
   | true=>simp [eqGuard_at_bool,run_neq_bool _ _ _ _ ht]
  ·cases h
 case nilc k neg x =>
  obtain ⟨t,X,Y,t',ho,ht,rfl⟩:=hm
  obtain ⟨q,hq,hv⟩:=aNilc_ok (a:=a) h hp' (ev X) X Y ht
  exact ⟨q,by simp only [execOp,ho]; exact run_value hq,hv⟩
 case eqA neg n x y =>
  obtain ⟨t,X,Y,t',e,ho,h1,h2,h3,h4,rfl,rfl⟩:=hm
  obtain ⟨q,hq,hv⟩:=aEqA_ok (P:=P) h hp' (ev X) (ev Y) X Y h1 h2 h3 h4
  exact ⟨q,by simp only [execOp,ho]; exact run_value hq,hv⟩
 case eqS neg fs x y =>
  obtain ⟨t,X,Y,t',ho,h1,⟨n,h2⟩,h3,h4,h5,rfl,rfl⟩:=hm
  obtain ⟨q,hq,hv⟩:=aEqS_ok (P:=P) h hp' (ev X) (ev Y) X Y h1 h2 h3 h4 h5
  exact ⟨q,by simp only [execOp,ho]; exact run_value hq,hv⟩
 case un b x =>
  obtain ⟨t,X,ho,rfl⟩:=hm
  obtain ⟨q,hq,hv⟩:=aUn_ok (P:=P) h hp' (ev X)
  exact ⟨q,by simp only [execOp,ho]; exact run_value hq,hv⟩
 case toInt k x =>
  obtain ⟨src,dst,X,ho,h1,h2,rfl⟩:=hm
  obtain ⟨q,hq,hv⟩:=aToInt_ok (P:=P) h hp' (ev X) h1 h2
  exact ⟨q,by simp only [execOp,ho]; exact run_value hq,hv⟩
 case toStr x =>
  obtain ⟨src,dst,e,X,ho,h1,h2,h3,rfl⟩:=hm
  obtain ⟨q,hq,hv⟩:=aToStr_ok (P:=P) H h hp' (ev X) h1 h2 h3
  exact ⟨q,by simp only [execOp,ho]; exact run_value hq,hv⟩
 case same x =>
  obtain ⟨src,dst,X,ho,h1,h2,rfl⟩:=hm
  split at h
  ·rename_i l hl
   injection h with h; injection h with e1 e2; subst e1
   have h3:=(hl ▸ ev X).str
   refine ⟨_,?_,Vl.str' _⟩
   simp only [execOp,ho,h3]
   exact run_value (by simp [convert,run_underlying h1,run_underlying h2])
  ·cases h
 case idxS x i =>
  obtain ⟨t,X,I,ho,h1,rfl,rfl⟩:=hm
  obtain ⟨q,hq,hv⟩:=aIdxS_ok (P:=P) h hp' (ev X) (ev I) h1
  exact ⟨q,by simp only [execOp,ho]; exact run_value hq,hv⟩
 case idxA n z x i =>
  obtain ⟨t,e,X,I,ho,h1,h2,h3,rfl,rfl⟩:=hm
  obtain ⟨q,hq,hv⟩:=aIdxA_ok (P:=P) h hp' (ev X) (ev I) h1 h2 h3
  exact ⟨q,by simp only [execOp,ho]; exact run_value hq,hv⟩
 case ia sz z x i =>
  obtain ⟨t,e,X,I,ho,h1,h2,rfl,rfl⟩:=hm
  obtain ⟨q,hq,hv⟩:=aIa_ok (P:=P) H h hp' (ev X) (ev I) h1 h2
  exact ⟨q,by simp only [execOp,ho]; exact run_value hq,hv⟩
 case iaA n x i =>
  obtain ⟨t,e,X,I,ho,h1,h2,rfl,rfl⟩:=hm
  obtain ⟨q,hq,hv⟩:=aIaA_ok (P:=P) h hp' (ev X) (ev I) h1 h2
  exact ⟨q,by simp only [execOp,ho]; exact run_value hq,hv⟩
 case fld o' rt x =>
  obtain ⟨t,fs,k,f,X,ho,h1,h2,rfl,h4,rfl⟩:=hm
  obtain ⟨q,hq,hv⟩:=aFld_ok (P:=P) h hp' (ev X) h1 h2 h4
  exact ⟨q,by simp only [execOp,ho]; exact run_value hq,hv⟩
 case fa o' x =>
  obtain ⟨t,fs,k,f,X,ho,h1,h2,rfl,h4,rfl⟩:=hm
  obtain ⟨q,hq,hv⟩:=aFa_ok (P:=P) h (ev X) h1 h2 h4
  exact ⟨q,by simp only [execOp,ho]; exact run_value hq,hv⟩
 case ld rt x =>
  obtain ⟨t,X,ho,h1,rfl⟩:=hm
  obtain ⟨q,hq,hv⟩:=aLd_ok (P:=P) H h hp' (ev X) h1
  exact ⟨q,by simp only [execOp,ho]; exact run_value hq,hv⟩
 case slS x lo hi =>
  obtain ⟨t,X,L,U,ho,h1,rfl,rfl,rfl⟩:=hm
  obtain ⟨q,hq,hv⟩:=aSlS_ok (P:=P) h hp' (ev X) (bd_ok hf L) (bd_ok hf U) h1
  exact ⟨q,by simp only [execOp,ho]; exact run_value hq,hv⟩
 case sl sz x lo hi =>
  obtain ⟨t,e,X,L,U,ho,h1,h2,rfl,rfl,rfl⟩:=hm
  obtain ⟨q,hq,hv⟩:=aSl_ok (P:=P) H h hp' (ev X) (bd_ok hf L) (bd_ok hf U) h1 h2
  exact ⟨q,by simp only [execOp,ho]; exact run_value hq,hv⟩
 case ext x i =>
  obtain ⟨X,ho,rfl⟩:=hm
  obtain ⟨q,hq,hv⟩:=aExt_ok (P:=P) h hp' (ev X)
  exact ⟨q,by simp only [execOp,ho]; exact run_value hq,hv⟩
 case nck x =>
  obtain ⟨X,ho,rfl⟩:=hm
  exact aNck_ok ho h (ev X)
 case len n str x =>
  obtain ⟨X,t,ho,h1,h2,rfl⟩:=hm
  split at h
  ·rename_i hs
   obtain ⟨q,hq,hv⟩:=aLen_ok (P:=P) (ty:=o.type) H h (ev X) h1 (fun hn=>by
    have h3:=h2 hn
    rw [hn] at hs
    simp only [Option.isSome_none,Bool.false_or,beq_iff_eq] at hs
    rw [← hs] at h3
    constructor
    ·intro e; rw [e] at h3; simpa using h3
    ·intro e; rw [e] at h3; simpa using h3)
   refine ⟨q,?_,hv⟩
   simp only [execOp,ho,resolve,Sem.run_bind,Sem.run_pure,Result.andThen_ok,invoke,builtin,List.map_toArray,List.map_cons,List.map_nil,hq]
  ·cases h
 case mkfn f first cap =>
  obtain ⟨A,B,ho,rfl,rfl⟩:=hm
  unfold aMkfn at h
  split at h
  ·rename_i hone
   injection h with h; injection h with e1 e2; subst e1
   simp only [Bool.and_eq_true,List.all_eq_true] at hone
   have one:∀ (l:List Operand),(∀ x∈(l.map opd).map s.ev,AV.one x=true)→∀ i,i<((l.map opd).map s.ev).length→Cs w S ρ (((l.map opd).map s.ev).getD i .top) [(l.map a.eval).getD i undef]:=by
    intro l hl i hi
    simp only [List.length_map] at hi
    have h1:((l.map opd).map s.ev).getD i .top=s.ev (opd l[i]):=by
     rw [List.getD_eq_getElem?_getD,List.getElem?_map,List.getElem?_map,List.getElem?_eq_getElem hi]; rfl
    have h2:(l.map a.eval).getD i undef=a.eval l[i]:=by
     rw [List.getD_eq_getElem?_getD,List.getElem?_map,List.getElem?_eq_getElem hi]; rfl
    rw [h1,h2]
    refine (ev l[i]).cs1 (hl _ ?_)
    exact List.mem_map.2 ⟨opd l[i],List.mem_map.2 ⟨l[i],List.getElem_mem hi,rfl⟩,rfl⟩
   refine ⟨.func f (A.toList.map a.eval).toArray (B.toList.map a.eval).toArray,?_,.inr ⟨_,.fn f _ _ (A.toList.map a.eval) (B.toList.map a.eval) (by simp) (by simp) (one _ hone.1) (one _ hone.2),rfl⟩⟩
   simp only [execOp,ho]
   refine run_value ?_
   obtain ⟨A⟩:=A
   obtain ⟨B⟩:=B
   simp [Instr.makeFunc]
  ·cases h
 case mkif t x =>
  obtain ⟨X,ho,h1,rfl⟩:=hm
  unfold aMkif at h
  split at h
  ·cases h
  ·cases h
  ·rename_i hne1 hne2
   injection h with h; injection h with e1 e2; subst e1
   refine ⟨.iface t (a.eval X),by simp only [execOp,ho]; exact run_value (run_makeInterface _ _ _ h1),?_⟩
   obtain ⟨us,hc,e⟩:=(ev X).cs hne2 hne1
   rw [e]; exact .inr ⟨_,.iface t _ us hc,rfl⟩
 case build zs prs =>
  obtain ⟨t,parts,z,place,ho,h1,h2,h3⟩:=hm
  obtain ⟨⟨q1,q2⟩,hq,e⟩:=Option.map_eq_some_iff.1 h
  injection e with e1 e2; subst e1 e2
  obtain ⟨us',k1,k2⟩:=aBuild_ok hf parts.toList prs zs _ _ z.toList h3 hq hp' (h2 w S ρ)
  refine ⟨.agg us'.toArray,?_,Vl.agg' k2.cs⟩
  simp only [execOp,ho]
  refine run_value (run_build w t _ _ ?_)
  rw [h1,← k1]
  simp
 case buildA zs prs =>
  obtain ⟨t,parts,ho,h1,h2,rfl⟩:=hm
  obtain ⟨q,hq,e⟩:=Option.map_eq_some_iff.1 h
  injection e with e1 e2; subst e1 e2
  rw [List.all_eq_true] at h2
  obtain ⟨k1,k2⟩:=aBuildA_ok hf parts.toList zs q hq h2
  refine ⟨.agg q.toArray,?_,Vl.blob' _ k2⟩
  simp only [execOp,ho]
  refine run_value (run_build w t _ _ ?_)
  rw [h1,← k1]
  simp
 case slA n x lo hi =>
  obtain ⟨t,e,X,L,U,ho,h1,h2,rfl,rfl,rfl⟩:=hm
  obtain ⟨q,hq,hv⟩:=aSlA_ok (P:=P) H h hp' (ev X) (bd_ok hf L) (bd_ok hf U) h1 h2
  exact ⟨q,by simp only [execOp,ho]; exact run_value hq,hv⟩
 case s2a n x =>
  obtain ⟨dst,e,X,ho,h1,rfl⟩:=hm
  obtain ⟨q,hq,hv⟩:=aArr_ok (P:=P) h hp' (ev X) h1
  exact ⟨q,by simp only [execOp,ho]; exact run_value hq,hv⟩
 case tas t x =>
  obtain ⟨X,xt,u,ho,h1,h2,rfl⟩:=hm
  obtain ⟨q,hq,hv⟩:=aTas_ok (P:=P) (xt:=xt) h (ev X) h1 h2
  exact ⟨q,by simp only [execOp,ho]; exact run_value hq,hv⟩
 case mget ok ks z m x =>
  obtain ⟨t,k,e,i,zv,M,X,ho,h1,h2,h3,h4,h5,rfl,rfl⟩:=hm
  obtain ⟨q,hq,hv⟩:=aMget_ok (P:=P) H h hp' (ev M) (ev X) h1 h2 h3 h4 (h5 w S ρ)
  exact ⟨q,by simp only [execOp,ho]; exact run_value hq,hv⟩
 case mlen m =>
  obtain ⟨t,k,e,M,ho,h1,rfl⟩:=hm
  obtain ⟨q,hq,hv⟩:=aMlen_ok (P:=P) (ty:=o.type) H h (ev M) h1
  refine ⟨q,?_,hv⟩
  simp only [execOp,ho,resolve,Sem.run_bind,Sem.run_pure,Result.andThen_ok,invoke,builtin,List.map_toArray,List.map_cons,List.map_nil,hq]
 case mm mx x y =>
  obtain ⟨X,Y,ts,ho,rfl,rfl⟩:=hm
  obtain ⟨q,hq,hv⟩:=aMm_ok (P:=P) h (ev X) (ev Y) ts o.type
  refine ⟨q,?_,hv⟩
  cases mx with
  | true=>simp only [if_true] at hq ho; simp only [execOp,ho,resolve,Sem.run_bind,Sem.run_pure,Result.andThen_ok,invoke,builtin,List.map_toArray,List.map_cons,List.map_nil,hq]
  | false=>simp only [Bool.false_eq_true,if_false] at hq ho; simp only [execOp,ho,resolve,Sem.run_bind,Sem.run_pure,Result.andThen_ok,invoke,builtin,List.map_toArray,List.map_cons,List.map_nil,hq]
end
end Go.Proofs.YtakolikdebfkeaaDoor
namespace Go.Proofs.YtakolikdebfkeaaDoor
open Go.RowKit
def rset (ρ:Rho) (id v:Nat) (L:Lc):Rho:=fun i u=>if i=id∧u=v then some L else ρ i u
theorem rset_self (ρ:Rho) (id v:Nat) (L:Lc):rset ρ id v L id v=some L:=by simp [rset]
theorem rset_ne (ρ:Rho) (id v:Nat) (L:Lc) {i u:Nat} (h:¬ (i=id∧u=v)):rset ρ id v L i u=ρ i u:=by simp [rset,h]
section
variable {F : Nat → Prop} {w0 w w' : World} {S S' : Nat → Prop} {ρ ρ' : Rho} {hp : List AObj}
theorem ObjOk.notS {id:Nat} {o:AObj} (h:ObjOk w S ρ id o):∀ b,o.blk ρ id=some b→¬ S b:=by
 intro b hb
 cases o with
 | cells t ps =>
  obtain ⟨g,us,h1,h2,h3,h4⟩:=h
  simp only [AObj.blk,h1,Option.bind_some,ablk,Option.map_some] at hb
  injection hb with hb; subst hb; exact h4
 | mp ks es =>
  obtain ⟨g,arr,clock,h1,h2,h3,h4,h5⟩:=h
  simp only [AObj.blk,h1,Option.bind_some,ablk,Option.map_some] at hb
  injection hb with hb; subst hb; exact h5
 | row e sz ver xs =>
  obtain ⟨L,us,h1,h2,h3,h4,h5,h6⟩:=h
  simp only [AObj.blk,h1,Option.bind_some] at hb
  exact h6 b hb
 | froz=>cases hb
 | gone=>cases hb
theorem ObjOk.lt {id:Nat} {o:AObj} (h:ObjOk w S ρ id o):∀ b,o.blk ρ id=some b→b<w.heap.size:=by
 intro b hb
 cases o with
 | cells t ps =>
  obtain ⟨g,us,h1,h2,h3,h4⟩:=h
  simp only [AObj.blk,h1,Option.bind_some,ablk,Option.map_some] at hb
  injection hb with hb; subst hb; exact (Array.getElem?_eq_some_iff.1 h2).1
 | mp ks es =>
  obtain ⟨g,arr,clock,h1,h2,h3,h4,h5⟩:=h
  simp only [AObj.blk,h1,Option.bind_some,ablk,Option.map_some] at hb
  injection hb with hb; subst hb; exact (Array.getElem?_eq_some_iff.1 h2).1
 | row e sz ver xs =>
  obtain ⟨L,us,h1,h2,h3,h4,h5,h6⟩:=h
  simp only [AObj.blk,h1,Option.bind_some] at hb
  obtain ⟨_,h4⟩:=h4
  rcases h4 with ⟨k1,_⟩ | ⟨g,cur,fr,k1,k2,_⟩
  ·rw [k1] at hb; cases hb
  ·rw [k1] at hb; simp only [ablk,Option.map_some] at hb; injection hb with hb; subst hb; exact (Array.getElem?_eq_some_iff.1 k2).1
 | froz=>cases hb
 | gone=>cases hb
theorem ObjOk.keep {id:Nat} {o:AObj} (h:ObjOk w S ρ id o) (e:Ext w w' S S' ρ ρ') (hb:∀ b,o.blk ρ id=some b→w'.heap[b]?=w.heap[b]?) (hS:∀ b,o.blk ρ id=some b→S' b→S b) (hn:∀ v,ρ id v=none→ρ' id v=none):ObjOk w' S' ρ' id o:=by
 cases o with
 | cells t ps =>
  obtain ⟨g,us,h1,h2,h3,h4⟩:=h
  have hg:(AObj.cells t ps).blk ρ id=some g:=by simp [AObj.blk,h1,ablk]
  exact ⟨g,us,e.loc _ _ _ h1,(hb g hg).trans h2,h3.ext e,fun hs=>h4 (hS g hg hs)⟩
 | mp ks es =>
  obtain ⟨g,arr,clock,h1,h2,h3,h4,h5⟩:=h
  have hg:(AObj.mp ks es).blk ρ id=some g:=by simp [AObj.blk,h1,ablk]
  exact ⟨g,arr,clock,e.loc _ _ _ h1,(hb g hg).trans h2,h3.ext e,h4,fun hs=>h5 (hS g hg hs)⟩
 | row e' sz ver xs =>
  obtain ⟨L,us,h1,h2,h3,h4,h5,h6⟩:=h
  have hg:∀ g,ablk L.A=some g→(AObj.row e' sz ver xs).blk ρ id=some g:=fun g hg=>by simp [AObj.blk,h1,hg]
  refine ⟨L,us,e.loc _ _ _ h1,h2,h3,?_,h5.ext ⟨e.mem,e.st,fun _ _ _ h=>by cases h⟩,fun g hgg hs=>h6 g hgg (hS g (hg g hgg) hs)⟩
  obtain ⟨h4a,h4⟩:=h4
  refine ⟨h4a,?_⟩
  rcases h4 with h4 | ⟨g,cur,fr,k1,k2,r⟩
  ·exact .inl h4
  ·exact .inr ⟨g,cur,fr,k1,(hb g (hg g (by rw [k1]; rfl))).trans k2,r⟩
 | froz sz ver xs =>
  obtain ⟨L,h1,h2,h3,h4⟩:=h
  exact ⟨L,e.loc _ _ _ h1,h2,h3,h4.ext e.mem e.st (fun _ _ _ h=>by cases h)⟩
 | gone=>exact fun v=>hn v (h v)
theorem AObj.blk_ext {id:Nat} {o:AObj} (h:ObjOk w S ρ id o) (hl:∀ id ver L,ρ id ver=some L→ρ' id ver=some L):o.blk ρ' id=o.blk ρ id:=by
 cases o with
 | cells t ps=>obtain ⟨g,us,h1,_⟩:=h; simp only [AObj.blk,h1,hl _ _ _ h1]
 | mp ks es=>obtain ⟨g,arr,clock,h1,_⟩:=h; simp only [AObj.blk,h1,hl _ _ _ h1]
 | row e' sz ver xs=>obtain ⟨L,us,h1,_⟩:=h; simp only [AObj.blk,h1,hl _ _ _ h1]
 | froz=>rfl
 | gone=>rfl
theorem HeapOk.upd (H:HeapOk F w0 S ρ hp w) {id:Nat} {o o' : AObj} (hid:hp[id]?=some o) (hg:w.grownBy w' (o.blk ρ id)) (hS:∀ b,S b→S' b) (hS2:∀ b,S' b→S b∨(w.heap.size≤b∧b<w'.heap.size)∨o.blk ρ id=some b)
  (hl:∀ i v L,ρ i v=some L→ρ' i v=some L) (hl2:∀ i v,i≠id→ρ' i v=ρ i v) (hob:ObjOk w' S' ρ' id o') (hv:∀ v,o'.ver<v→ρ' id v=none)
  (hb:∀ b,o'.blk ρ' id=some b→o.blk ρ id=some b∨w.heap.size≤b):HeapOk F w0 S' ρ' (hp.set id o') w' ∧ Ext w w' S S' ρ ρ' := by
 have ho:=H.ob id o hid
 have hlt:id<hp.length:=(List.getElem?_eq_some_iff.1 hid).1
 have hE:Ext w w' S S' ρ ρ' := ⟨fun b hb=>hg.block b (H.slt b hb) (fun e=>ho.notS b e.symm hb),hS,hl⟩
 have split:∀ (j:Nat) (z:AObj),(hp.set id o')[j]?=some z→(j=id∧z=o')∨(j≠id∧hp[j]?=some z):=by
  intro j z hz
  by_cases e:j=id
  ·subst e; rw [List.getElem?_set_self hlt] at hz; exact .inl ⟨rfl,by simpa using hz.symm⟩
  ·rw [List.getElem?_set_ne (Ne.symm e)] at hz; exact .inr ⟨e,hz⟩
 have hmine:∀ b,o'.blk ρ' id=some b→F b∨w0.heap.size≤b:=fun b hbb=>by
  rcases hb b hbb with h | h
  ·exact H.mine id o hid b h
  ·exact .inr (Nat.le_trans H.kept.size h)
 refine ⟨⟨H.kept.of_grown hg (fun k hk=>H.mine id o hid k hk),fun j z hz=>?_,fun i j x y hij hx hy b hxb hyb=>?_,fun j z hz b hzb=>?_,fun b hbb=>?_,fun j hj v=>?_,fun j z hz v hvv=>?_⟩,hE⟩
 ·rcases split j z hz with ⟨rfl,rfl⟩ | ⟨hne,hz⟩
  ·exact hob
  ·have hz' := H.ob j z hz
   refine hz'.keep hE (fun b hbb=>hg.block b (hz'.lt b hbb) (fun e=>H.apart j id z o hne hz hid b hbb e.symm)) (fun b hbb hs=>?_) (fun v hv=>by rw [hl2 j v hne]; exact hv)
   rcases hS2 b hs with h | ⟨h,_⟩ | h
   ·exact h
   ·have:=hz'.lt b hbb; omega
   ·exact absurd h (H.apart j id z o hne hz hid b hbb)
 ·rcases split i x hx with ⟨e1,e2⟩ | ⟨hi,hx1⟩ <;> rcases split j y hy with ⟨e3,e4⟩ | ⟨hj,hy1⟩
  ·exact hij (e1.trans e3.symm)
  ·have hy' := H.ob j y hy1
   rw [AObj.blk_ext hy' hl] at hyb
   rw [e1,e2] at hxb
   rcases hb b hxb with h | h
   ·exact H.apart id j o y (fun e=>hj e.symm) hid hy1 b h hyb
   ·have:=hy'.lt b hyb; omega
  ·have hx' := H.ob i x hx1
   rw [AObj.blk_ext hx' hl] at hxb
   rw [e3,e4] at hyb
   rcases hb b hyb with h | h
   ·exact H.apart i id x o hi hx1 hid b hxb h
   ·have:=hx'.lt b hxb; omega
  ·have hx' := H.ob i x hx1
   have hy' := H.ob j y hy1
   rw [AObj.blk_ext hx' hl] at hxb
   rw [AObj.blk_ext hy' hl] at hyb
   exact H.apart i j x y hij hx1 hy1 b hxb hyb
 ·rcases split j z hz with ⟨rfl,rfl⟩ | ⟨hne,hz⟩
  ·exact hmine b hzb
  ·rw [AObj.blk_ext (H.ob j z hz) hl] at hzb; exact H.mine j z hz b hzb
 ·rcases hS2 b hbb with h | ⟨_,h⟩ | h
  ·exact Nat.lt_of_lt_of_le (H.slt b h) hg.size
  ·exact h
  ·exact Nat.lt_of_lt_of_le (ho.lt b h) hg.size
 ·rw [List.length_set] at hj
  rw [hl2 j v (by omega)]; exact H.new j hj v
 ·rcases split j z hz with ⟨rfl,rfl⟩ | ⟨hne,hz⟩
  ·exact hv v hvv
  ·rw [hl2 j v hne]; exact H.vers j z hz v hvv
theorem HeapOk.push (H:HeapOk F w0 S ρ hp w) {o' : AObj} (hbel:Below w.heap.size w w') (hS:∀ b,S b→S' b) (hS2:∀ b,S' b→S b∨(w.heap.size≤b∧b<w'.heap.size))
  (hl:∀ i v L,ρ i v=some L→ρ' i v=some L) (hl2:∀ i v,i≠hp.length→ρ' i v=ρ i v) (hob:ObjOk w' S' ρ' hp.length o') (hv:∀ v,o'.ver<v→ρ' hp.length v=none)
  (hb:∀ b,o'.blk ρ' hp.length=some b→w.heap.size≤b):HeapOk F w0 S' ρ' (hp ++ [o']) w' ∧ Ext w w' S S' ρ ρ' := by
 have hE:Ext w w' S S' ρ ρ' := ⟨fun b hb=>hbel.block b (H.slt b hb),hS,hl⟩
 have split:∀ (j:Nat) (z:AObj),(hp ++ [o'])[j]?=some z→(j=hp.length∧z=o')∨(j<hp.length∧hp[j]?=some z):=by
  intro j z hz
  rcases Nat.lt_or_ge j hp.length with h | h
  ·rw [List.getElem?_append_left h] at hz; exact .inr ⟨h,hz⟩
  ·rw [List.getElem?_append_right h] at hz
   have h0:j - hp.length<[o'].length:=(List.getElem?_eq_some_iff.1 hz).1
   simp only [List.length_cons,List.length_nil] at h0
   have:j - hp.length=0:=by omega
   rw [this] at hz
   exact .inl ⟨by omega,by simpa using hz.symm⟩
 refine ⟨⟨H.kept.trans (Kept.of_below hbel),fun j z hz=>?_,fun i j x y hij hx hy b hxb hyb=>?_,fun j z hz b hzb=>?_,fun b hbb=>?_,fun j hj v=>?_,fun j z hz v hvv=>?_⟩,hE⟩
 ·rcases split j z hz with ⟨e1,e2⟩ | ⟨hne,hz⟩
  ·rw [e1,e2]; exact hob
  ·have hz' := H.ob j z hz
   refine hz'.keep hE (fun b hbb=>hbel.block b (hz'.lt b hbb)) (fun b hbb hs=>?_) (fun v hv=>by rw [hl2 j v (by omega)]; exact hv)
   rcases hS2 b hs with h | ⟨h,_⟩
   ·exact h
   ·have:=hz'.lt b hbb; omega
 ·rcases split i x hx with ⟨e1,e2⟩ | ⟨hi,hx1⟩ <;> rcases split j y hy with ⟨e3,e4⟩ | ⟨hj,hy1⟩
  ·exact hij (e1.trans e3.symm)
  ·have hy' := H.ob j y hy1
   rw [AObj.blk_ext hy' hl] at hyb
   rw [e1,e2] at hxb
   have h1:=hb b hxb
   have:=hy'.lt b hyb; omega
  ·have hx' := H.ob i x hx1
   rw [AObj.blk_ext hx' hl] at hxb
   rw [e3,e4] at hyb
   have h1:=hb b hyb
   have:=hx'.lt b hxb; omega
  ·have hx' := H.ob i x hx1
   have hy' := H.ob j y hy1
   rw [AObj.blk_ext hx' hl] at hxb
   rw [AObj.blk_ext hy' hl] at hyb
   exact H.apart i j x y hij hx1 hy1 b hxb hyb
 ·rcases split j z hz with ⟨e1,e2⟩ | ⟨hne,hz⟩
  ·rw [e1,e2] at hzb; exact .inr (Nat.le_trans H.kept.size (hb b hzb))
  ·rw [AObj.blk_ext (H.ob j z hz) hl] at hzb; exact H.mine j z hz b hzb
 ·rcases hS2 b hbb with h | ⟨_,h⟩
  ·exact Nat.lt_of_lt_of_le (H.slt b h) hbel.size
  ·exact h
 ·rw [List.length_append,List.length_singleton] at hj
  rw [hl2 j v (by omega)]; exact H.new j (by omega) v
 ·rcases split j z hz with ⟨e1,e2⟩ | ⟨hne,hz⟩
  ·rw [e1]; rw [e2] at hvv; exact hv v hvv
  ·rw [hl2 j v (by omega)]; exact H.vers j z hz v hvv
theorem HeapOk.same (H:HeapOk F w0 S ρ hp w) (hbel:Below w.heap.size w w') (hS:∀ b,S b→S' b) (hS2:∀ b,S' b→S b∨(w.heap.size≤b∧b<w'.heap.size)):HeapOk F w0 S' ρ hp w' ∧ Ext w w' S S' ρ ρ:=by
 have hE:Ext w w' S S' ρ ρ:=⟨fun b hb=>hbel.block b (H.slt b hb),hS,fun _ _ _ h=>h⟩
 refine ⟨⟨H.kept.trans (Kept.of_below hbel),fun j z hz=>?_,H.apart,H.mine,fun b hbb=>?_,H.new,H.vers⟩,hE⟩
 ·have hz' := H.ob j z hz
  refine hz'.keep hE (fun b hbb=>hbel.block b (hz'.lt b hbb)) (fun b hbb hs=>?_) (fun v hv=>hv)
  rcases hS2 b hs with h | ⟨h,_⟩
  ·exact h
  ·have:=hz'.lt b hbb; omega
 ·rcases hS2 b hbb with h | ⟨_,h⟩
  ·exact Nat.lt_of_lt_of_le (H.slt b h) hbel.size
  ·exact h
end
end Go.Proofs.YtakolikdebfkeaaDoor
namespace Go.Proofs.YtakolikdebfkeaaDoor
open Go.RowKit
section
variable {P : Program} {w : World}
theorem heap_setCell_row (w:World) (g i:Nat) (cs:Array Value) (t:TypeId) (fr:Nat × Nat) (v:Value) (hg:w.heap[g]?=some (.cells cs t fr)) :
  (w.setCell ⟨g,i,none⟩ v).heap[g]?=some (.cells (cs.setIfInBounds i v) t fr):=by
 simp [World.setCell,Array.getElem?_modify,hg]
theorem grown_setCell (w:World) (g i:Nat) (v:Value):w.grownBy (w.setCell ⟨g,i,none⟩ v) (some g):=only_set (World.grownBy.refl w _) (.inl rfl) v
theorem setCells_row (g:Nat) (t:TypeId) (fr:Nat × Nat):∀ (vs:List Value) (o:Nat) (w:World) (cs:Array Value),w.heap[g]?=some (.cells cs t fr)→o+vs.length≤cs.size →
  (w.setCells g o vs).heap[g]?=some (.cells (cs.toList.take o ++ vs ++ cs.toList.drop (o+vs.length)).toArray t fr)∧w.grownBy (w.setCells g o vs) (some g):=by
 intro vs
 induction vs with
 | nil=>intro o w cs hg _; exact ⟨by simpa [World.setCells] using hg,World.grownBy.refl w _⟩
 | cons v vs ih =>
  intro o w cs hg hl
  simp only [List.length_cons] at hl
  obtain ⟨h1,h2⟩:=ih (o+1) _ _ (heap_setCell_row w g o cs t fr v hg) (by simp; omega)
  refine ⟨?_,(grown_setCell w g o v).trans h2⟩
  rw [World.setCells,h1]
  have:=list_seg_step cs.toList o v vs (by simp; omega)
  simp only [Array.toList_setIfInBounds,List.length_cons,this]
theorem frozen_row (w:World) (g j:Nat) (cs:Array Value) (t:TypeId) (fr:Nat × Nat) (hg:w.heap[g]?=some (.cells cs t fr)) (h:¬ (fr.1≤j∧j<fr.2)):w.frozen? ⟨g,j,none⟩=false:=by
 simp only [World.frozen?,hg]
 rw [Bool.eq_false_iff]
 intro hh
 simp at hh
 exact h hh
theorem run_storeCells_row (g o:Nat) (t:TypeId) (fr:Nat × Nat) (vs:List Value) (cs:Array Value) (hg:w.heap[g]?=some (.cells cs t fr)) (hl:o+vs.length≤cs.size) (hf:∀ j,j<cs.size→¬ (fr.1≤j∧j<fr.2)) (h1:∀ v∈vs,v.oneCell' = true) :
  (storeCells ⟨g,o,none⟩ vs 0).run P w=.ok () (w.setCells g o vs):=by
 have:=run_storeCells_cells (P:=P) g o vs 0 w (fun j hj=>by
  rw [cell_of_row w g _ cs t fr hg,Array.getElem?_eq_getElem (by omega)]; rfl) (fun j hj=>frozen_row w g _ cs t fr hg (hf _ (by omega))) h1
 simpa using this
theorem run_append_rw {t ty e:TypeId} {i:TypeInfo} {z:Value} (ht:P.underlying t=some (.slice e)) (hi:P.info? e=some i) (hz:i.zero=some z) (hzs:z.cells.size=i.size)
  {L:Lc} {us:List Value} (hL:L.sz=i.size) (hr:Rw w e L us) {A2:Option Addr} {m c2:Nat} {vs:List Value} (hv:vs.length=m * i.size) (hone:∀ u∈vs,u.oneCell' = true)
  (hcell:0<vs.length→∃ b o,A2=some ⟨b,o,none⟩∧∀ j,j<vs.length→w.cell? ⟨b,o+j,none⟩=vs[j]?) (hpos:0<i.size) (hmax:L.n+m≤9223372036854775807) (hbytes:(L.n+m) * i.bytes≤140737488355328) :
  ∃ (L' : Lc) (w' : World),(Builtin.append_ #[t,t] ty #[.slice L.A L.n L.c,.slice A2 m c2]).run P w=.ok (.slice L'.A L'.n L'.c) w' ∧ Rw w' e L' (us ++ vs)∧L'.n=L.n+m∧L'.sz=i.size∧w.grownBy w' (ablk L.A)∧(ablk L'.A=ablk L.A∨ablk L'.A=some w.heap.size):=by
 obtain ⟨hul,hr⟩:=hr
 rcases Nat.eq_zero_or_pos m with h0 | h0
 ·subst h0
  have:vs=[]:=List.eq_nil_of_length_eq_zero (by simpa using hv)
  subst this
  refine ⟨L,w,?_,⟨by simpa using hul,by simpa using hr⟩,rfl,hL,World.grownBy.refl w _,.inl rfl⟩
  have hn:L.n≤L.c:=by
   rcases hr with ⟨_,h2,h3⟩ | ⟨_,_,_,_,_,_,h,_⟩
   ·omega
   ·exact h
  cases hA:L.A <;> cases A2 <;> simp [Builtin.append_,run_underlying ht,sizeOf,typeInfo,hi,Builtin.lenOf,Builtin.firstCells,loadCells,loadCellsFrom,hn,storeCells]
 ·have hvpos:0<vs.length:=by rw [hv]; exact Nat.mul_pos h0 hpos
  obtain ⟨b,o,rfl,hc⟩:=hcell hvpos
  have hnews:∀ j v,vs[j]?=some v→w.cell? ((⟨b,o,none⟩:Addr).add j)=some v:=by
   intro j v hj
   rw [add_spot,hc j (List.getElem?_eq_some_iff.1 hj).1,hj]
  have hlen:(us ++ vs).length=(L.n+m) * i.size:=by rw [List.length_append,hul,hv,hL,Nat.add_mul]
  have grown:∀ (old:Nat),old<L.n+m →
    Rw (w.drew.alloc (.cells (us.toArray ++ vs.toArray ++ Builtin.zeroCells z.cells (grownCap w (L.n+m) old e - (L.n+m))) e)) e ⟨some ⟨w.heap.size,0,none⟩,grownCap w (L.n+m) old e,L.n+m,i.size⟩ (us ++ vs):=by
   intro old ho
   have hge:=grownCap_ge w (L.n+m) old e
   have hcm:grownCap w (L.n+m) old e≤9223372036854775807:=by
    have:=grownCap_le_maxLen w (L.n+m) old e (by simp only [maxLen]; omega)
    simp only [maxLen] at this; omega
   refine ⟨hlen,.inr ⟨w.heap.size,_,(0,0),rfl,heap_alloc_new w.drew _,.inl rfl,hge,hcm,?_,?_⟩⟩
   ·have e1:us.length+vs.length=(L.n+m) * i.size:=by rw [← List.length_append,hlen]
    simp only [Array.size_append,List.size_toArray,size_zeroCells,hzs]
    rw [e1,← Nat.add_mul]
    congr 1
    show L.n+m+(grownCap w (L.n+m) old e - (L.n+m))=grownCap w (L.n+m) old e
    omega
   ·simp only [Array.toList_append,List.append_assoc]
    rw [← List.append_assoc,← hlen]
    exact List.take_left
  have gnew:∀ (X:Array Value) (row:Option Nat),w.grownBy (w.drew.alloc (.cells X e)) row:=fun X row=>⟨rfl,rfl,rfl,by simp,fun k hk _=>Below.heap_alloc w.drew _ k hk⟩
  rcases hr with ⟨k1,k2,k3⟩ | ⟨g,cur,fr,k1,k2,k3,k4,k5,k6,k7⟩
  ·have hus:us=[]:=List.eq_nil_of_length_eq_zero (by rw [hul,k2,Nat.zero_mul])
   subst hus
   have hrun:=run_append_nil (P:=P) w t ty e i z ht hi hz ⟨b,o,none⟩ m c2 vs hv hnews h0 (by omega) (by rw [k2] at hbytes; simp only [Nat.zero_add] at hbytes; omega)
   have hg:=grown 0 (by omega)
   rw [k2] at hg
   simp only [Nat.zero_add,List.nil_append,Array.empty_append] at hg
   refine ⟨⟨some ⟨w.heap.size,0,none⟩,grownCap w m 0 e,m,i.size⟩,w.drew.alloc (.cells (vs.toArray ++ Builtin.zeroCells z.cells (grownCap w m 0 e - m)) e),?_,?_,by simp only; omega,rfl,gnew _ _,.inr rfl⟩
   ·rw [k1,k2,k3]; exact hrun
   ·rw [List.nil_append]; exact hg
  ·by_cases hroom:L.n+m≤L.c
   ·have hfit:L.n * i.size+vs.length≤cur.size:=by rw [hv,k6,hL,← Nat.add_mul]; exact Nat.mul_le_mul_right _ hroom
    have hst:=run_storeCells_row (P:=P) (w:=w) g (L.n * i.size) e fr vs cur k2 hfit k3.out hone
    obtain ⟨s1,s2⟩:=setCells_row g e fr vs (L.n * i.size) w cur k2 hfit
    refine ⟨⟨some ⟨g,0,none⟩,L.c,L.n+m,i.size⟩,w.setCells g (L.n * i.size) vs,?_,⟨hlen,.inr ⟨g,_,fr,rfl,s1,?_,hroom,k5,?_,?_⟩⟩,rfl,rfl,by rw [k1]; exact s2,.inl (by rw [k1])⟩
    ·have hf:=run_firstCells_some (P:=P) w i.size m ⟨b,o,none⟩ m c2 vs hv hnews
     rw [k1]
     simp [Builtin.append_,run_underlying ht,sizeOf,typeInfo,hi,Builtin.lenOf,hroom,hf,Addr.add_lit,hst]
    ·refine k3.imp id fun h=>?_
     simp; omega
    ·simp only [List.size_toArray,List.length_append,List.length_take,List.length_drop,Array.length_toList]
     rw [hL] at k6
     omega
    ·rw [hL] at k7
     rw [k7,← hlen]
     exact List.take_left
   ·have holds:∀ j u,us[j]?=some u→w.cell? ((⟨g,0,none⟩:Addr).add j)=some u:=by
     intro j u hj
     have hjl:=(List.getElem?_eq_some_iff.1 hj).1
     rw [add_spot,Nat.zero_add,cell_of_row w g j cur e fr k2]
     rw [← k7,List.getElem?_take] at hj
     split at hj
     ·simpa using hj
     ·cases hj
    have hrun:=run_append_grow (P:=P) w t ty e i z ht hi hz ⟨g,0,none⟩ L.n L.c us (by rw [hul,hL]) holds ⟨b,o,none⟩ m c2 vs hv hnews (by omega) (by omega) (growslice_fits (by omega) hbytes)
    exact ⟨⟨some ⟨w.heap.size,0,none⟩,grownCap w (L.n+m) L.c e,L.n+m,i.size⟩,_,by rw [k1]; exact hrun,grown L.c (by omega),rfl,rfl,gnew _ _,.inr rfl⟩
end
end Go.Proofs.YtakolikdebfkeaaDoor
namespace Go.Proofs.YtakolikdebfkeaaDoor
open Go.RowKit Go.Lib
theorem strCells_U (l:List UInt8):strCells ⟨l.toArray⟩=l.map U:=by simp [strCells]; intro a _; rfl
theorem run_append_rwS {P:Program} {w:World} {t u ty e:TypeId} {i:TypeInfo} (ht:P.underlying t=some (.slice e)) (hu:P.underlying u=some .string) (hi:P.info? e=some i) (hz:i.zero=some (.int .u8 0)) (hs1:i.size=1)
  {L:Lc} {us:List Value} (hL:L.sz=1) (hr:Rw w e L us) (l:List UInt8) (hmax:L.n+l.length≤9223372036854775807) (hbytes:(L.n+l.length) * i.bytes≤140737488355328) :
  ∃ (L' : Lc) (w' : World),(Builtin.append_ #[t,u] ty #[.slice L.A L.n L.c,.string ⟨l.toArray⟩]).run P w=.ok (.slice L'.A L'.n L'.c) w' ∧ Rw w' e L' (us ++ l.map U)∧L'.n=L.n+l.length∧L'.sz=1∧w.grownBy w' (ablk L.A)∧(ablk L'.A=ablk L.A∨ablk L'.A=some w.heap.size):=by
 obtain ⟨hul,hr⟩:=hr
 have hsz:(⟨l.toArray⟩:ByteArray).size=l.length:=rfl
 have hsc:=strCells_U l
 generalize hS:(⟨l.toArray⟩:ByteArray)=S at *
 have hvl:(l.map U).length=l.length:=by simp
 have hone:∀ v∈l.map U,v.oneCell' = true:=by intro v hv; obtain ⟨b,_,rfl⟩:=List.mem_map.1 hv; rfl
 generalize l.map U=vs at *
 generalize hm:l.length=m at *
 have hlen:(us ++ vs).length=(L.n+m) * 1:=by rw [List.length_append,hul,hvl,hL]; omega
 have grown:∀ (old:Nat),old<L.n+m →
   Rw (w.drew.alloc (.cells (us.toArray ++ vs.toArray ++ Builtin.zeroCells (Value.int .u8 0).cells (grownCap w (L.n+m) old e - (L.n+m))) e)) e ⟨some ⟨w.heap.size,0,none⟩,grownCap w (L.n+m) old e,L.n+m,1⟩ (us ++ vs):=by
  intro old ho
  have hge:=grownCap_ge w (L.n+m) old e
  have hcm:grownCap w (L.n+m) old e≤9223372036854775807:=by
   have:=grownCap_le_maxLen w (L.n+m) old e (by simp only [maxLen]; omega)
   simp only [maxLen] at this; omega
  refine ⟨hlen,.inr ⟨w.heap.size,_,(0,0),rfl,heap_alloc_new w.drew _,.inl rfl,hge,hcm,?_,?_⟩⟩
  ·have hz1:(Value.int IntKind.u8 0).cells.size=1:=rfl
   rw [List.length_append] at hlen
   simp only [Array.size_append,List.size_toArray,size_zeroCells,hz1]
   omega
  ·simp only [Array.toList_append,List.append_assoc]
   rw [← List.append_assoc,← hlen]
   exact List.take_left
 have gnew:∀ (X:Array Value) (row:Option Nat),w.grownBy (w.drew.alloc (.cells X e)) row:=fun X row=>⟨rfl,rfl,rfl,by simp,fun k hk _=>Below.heap_alloc w.drew _ k hk⟩
 rcases hr with ⟨k1,k2,k3⟩ | ⟨g,cur,fr,k1,k2,k3,k4,k5,k6,k7⟩
 ·have hus:us=[]:=List.eq_nil_of_length_eq_zero (by rw [hul,k2,Nat.zero_mul])
  subst hus
  by_cases h0:m=0
  ·subst h0
   have:vs=[]:=List.eq_nil_of_length_eq_zero hvl
   subst this
   have hf:=run_firstCells_string (P:=P) w 1 S
   rw [hsz] at hf
   refine ⟨L,w,?_,⟨by simpa using hul,.inl ⟨k1,k2,k3⟩⟩,rfl,hL,World.grownBy.refl w _,.inl rfl⟩
   rw [k1,k2,k3]
   simp [Builtin.append_,run_underlying ht,run_underlying hu,sizeOf,typeInfo,hi,hs1,Builtin.lenOf,hsz,hf]
  ·have hr:=run_append_nil_string (P:=P) w t u ty e i (.int .u8 0) ht hu hi hz S (by omega) (by omega) (by rw [hsz]; rw [k2] at hbytes; simp only [Nat.zero_add] at hbytes; omega)
   have e1:(S.data.map fun b=>Value.int .u8 b.toNat)=(strCells S).toArray:=by
    apply Array.ext'
    simp [strCells]
   rw [e1,hsc,hsz] at hr
   have hg:=grown 0 (by omega)
   rw [k2] at hg
   simp only [Nat.zero_add,List.nil_append,Array.empty_append] at hg
   refine ⟨⟨some ⟨w.heap.size,0,none⟩,grownCap w m 0 e,m,1⟩,w.drew.alloc (.cells (vs.toArray ++ Builtin.zeroCells (Value.int .u8 0).cells (grownCap w m 0 e - m)) e),?_,?_,by simp only; omega,rfl,gnew _ _,.inr rfl⟩
   ·rw [k1,k2,k3]; exact hr
   ·rw [List.nil_append]; exact hg
 ·by_cases hroom:L.n+m≤L.c
  ·have hfit:L.n+vs.length≤cur.size:=by rw [hvl,k6,hL]; omega
   have hst:=run_storeCells_row (P:=P) (w:=w) g L.n e fr vs cur k2 hfit k3.out hone
   obtain ⟨s1,s2⟩:=setCells_row g e fr vs L.n w cur k2 hfit
   refine ⟨⟨some ⟨g,0,none⟩,L.c,L.n+m,1⟩,w.setCells g L.n vs,?_,⟨hlen,.inr ⟨g,_,fr,rfl,s1,?_,hroom,k5,?_,?_⟩⟩,rfl,rfl,by rw [k1]; exact s2,.inl (by rw [k1])⟩
   ·have hf:=run_firstCells_string (P:=P) w 1 S
    rw [hsz,hsc] at hf
    rw [k1]
    simp [Builtin.append_,run_underlying ht,run_underlying hu,sizeOf,typeInfo,hi,hs1,Builtin.lenOf,hsz,hroom,hf,Addr.add_lit,hst]
   ·refine k3.imp id fun h=>?_
    simp; omega
   ·simp only [List.size_toArray,List.length_append,List.length_take,List.length_drop,Array.length_toList]
    rw [hL] at k6
    omega
   ·rw [hL] at k7
    rw [Nat.mul_one] at k7
    rw [k7,← hlen]
    exact List.take_left
  ·have holds:∀ j v,us[j]?=some v→w.cell? ((⟨g,0,none⟩:Addr).add j)=some v:=by
    intro j v hj
    rw [add_spot,Nat.zero_add,cell_of_row w g j cur e fr k2]
    rw [← k7,List.getElem?_take] at hj
    split at hj
    ·simpa using hj
    ·cases hj
   have hrun:=run_append_grow_string (P:=P) w t u ty e i (.int .u8 0) ht hu hi hz ⟨g,0,none⟩ L.n L.c us (by rw [hul,hL,hs1]) holds S (by omega) (by omega) (growslice_fits (by omega) (by rw [hsz]; exact hbytes))
   rw [hsz,hsc] at hrun
   exact ⟨⟨some ⟨w.heap.size,0,none⟩,grownCap w (L.n+m) L.c e,L.n+m,1⟩,_,by rw [k1]; exact hrun,grown L.c (by omega),rfl,rfl,gnew _ _,.inr rfl⟩
end Go.Proofs.YtakolikdebfkeaaDoor
namespace Go.Proofs.YtakolikdebfkeaaDoor
open Go.RowKit
def aElems (s:St) (sz:Nat):List Opd→Option (List AV × Prop)
 | []=>some ([],True)
 | x :: r=>match szOk sz (s.ev x),aElems s sz r with
  | some p,some (xs,q)=>if pureB 4 (s.ev x) then some (s.ev x :: xs,p∧q) else none
  | _,_=>none
def anew (s:St):AOp→Option ((Nat→AV) × AObj × Prop)
 | .appS e x y=>match s.ev x,s.ev y with
  | .con u,.str l=>if nilS u then some (fun id=>.own id 0,.row e 1 0 (Bs l),lenOk l.length∧bytesOk l.length) else none
  | _,_=>none
 | .new t ps=>some (fun id=>.ref id 0 0,.cells t ps,True)
 | .box t sz x=>match szOk sz (s.ev x) with
  | some p=>some (fun id=>.ref id 0 0,.cells t (pparts sz (s.ev x)),p)
  | none=>none
 | .buildSl e sz parts=>match aElems s sz parts with
  | some (xs,p)=>some (fun id=>.own id 0,.row e sz 0 xs,p∧lenOk xs.length)
  | none=>none
 | .bytes e x=>match s.ev x with
  | .str l=>some (fun id=>.own id 0,.row e 1 0 (Bs l),lenOk l.length)
  | _=>none
 | .mkSl e _ bytes z l c=>match s.ev l,s.ev c with
  | .int _ a,.int _ b=>some (fun id=>.own id 0,.row e 1 0 (List.replicate a.toNat z),0≤a∧a≤b∧(bytes:Int) * b≤281474976710656∧b≤9223372036854775807)
  | _,_=>none
 | .app e sz bytes x y=>match s.ev x with
  | .con u=>if nilS u then match view s.hp sz (s.ev y) with
   | some ys=>some (fun id=>.own id 0,.row e sz 0 ys,lenOk ys.length∧bytesOk (ys.length * bytes))
   | none=>none else none
  | _=>none
 | .mkMap ks=>some (fun id=>.mpv id,.mp ks [],True)
 | _=>none
structure SlOk (P:Program) (t e:TypeId) (sz bytes:Nat):Prop where
 under:P.underlying t=some (.slice e)
 info:(P.info? e).map (fun i=>(i.size,i.bytes,(i.zero.map fun z=>z.cells.size)))=some (sz,bytes,some sz)
 pos:0<sz
theorem SlOk.parts {P:Program} {t e:TypeId} {sz bytes:Nat} (h:SlOk P t e sz bytes):∃ i z,P.info? e=some i∧i.zero=some z∧z.cells.size=i.size∧i.size=sz∧i.bytes=bytes:=by
 obtain ⟨i,h1,h2⟩:=Option.map_eq_some_iff.1 h.info
 simp only [Prod.mk.injEq] at h2
 obtain ⟨h2,h3,h4⟩:=h2
 obtain ⟨z,h5,h6⟩:=Option.map_eq_some_iff.1 h4
 exact ⟨i,z,h1,h5,by rw [h6,h2],h2,h3⟩
def Mt2 (P:Program) (op:Op):AOp→Prop
 | .new t ps=>∃ i z,op=.alloc t∧P.info? t=some i∧i.zero=some z∧(∀ (w:World) (S:Nat→Prop) (ρ:Rho),Css w S ρ ps z.cells.toList)
 | .box t sz x=>∃ X,op=.box t X∧x=opd X
 | .buildSl e sz parts=>∃ t i z n ps,op=.buildSlice t n ps∧P.underlying t=some (.slice e)∧P.info? e=some i∧i.size=sz∧i.zero=some z∧n * sz≤16777216∧ps.toList.map (·.1)=List.range n∧parts=ps.toList.map fun (q:Nat × Operand)=>opd q.2
 | .bytes e x=>∃ src dst X,op=.convert src dst X∧P.underlying src=some .string∧P.underlying dst=some (.slice e)∧P.underlying e=some (.int .u8)∧x=opd X
 | .mkSl e sz bytes z l c=>∃ t i zv L C,op=.makeSlice t L C∧P.underlying t=some (.slice e)∧P.info? e=some i∧i.size=1∧sz=1∧i.bytes=bytes∧i.zero=some zv∧zv.oneCell' = true∧z=ofC zv∧l=opd L∧c=opd C
 | .app e sz bytes x y=>∃ t X Y,op=.call { callee:=.builtin .append,args:=#[X,Y],argTypes:=#[t,t] }∧SlOk P t e sz bytes∧x=opd X∧y=opd Y
 | .appS e x y=>∃ t u i X Y,op=.call { callee:=.builtin .append,args:=#[X,Y],argTypes:=#[t,u] }∧P.underlying t=some (.slice e)∧P.underlying u=some .string∧P.info? e=some i∧i.zero=some (.int .u8 0)∧i.size=1∧i.bytes=1∧x=opd X∧y=opd Y
 | .mark x=>∃ t e X,op=.convert t t X∧P.underlying t=some (.slice e)∧P.underlying e=some (.int .u8)∧x=opd X
 | .mkMap _=>∃ t,op=.makeMap t none
 | .mput ks m x v=>∃ t k e M X V,op=.mapUpdate t M X V∧P.underlying t=some (.map k e)∧KeyOk P k ks∧m=opd M∧x=opd X∧v=opd V
 | _=>False
section
variable {P : Program} {F : Nat → Prop} {w0 w : World} {S : Nat → Prop} {ρ : Rho}
theorem rset_mono {id:Nat} (h:∀ u,ρ id u=none) (L:Lc):∀ i v K,ρ i v=some K→rset ρ id 0 L i v=some K:=by
 intro i v K hk
 rw [rset_ne]
 ·exact hk
 ·rintro ⟨rfl,rfl⟩; rw [h] at hk; cases hk
theorem aElems_ok {s:St} {a:Act} (hf:FrOk w S ρ s.fr a.tmps) {sz:Nat}:∀ (parts:List Operand) (xs:List AV) (p:Prop),aElems s sz (parts.map opd)=some (xs,p)→p →
  (∀ v∈parts.map a.eval,v.cells.size=sz)∧Css w S rho0 (prs sz xs) ((parts.map a.eval).map fun v=>v.cells.toList).flatten∧xs.length=parts.length:=by
 intro parts
 induction parts with
 | nil=>intro xs p h hp; simp only [List.map_nil,aElems,Option.some.injEq,Prod.mk.injEq] at h; obtain ⟨rfl,rfl⟩:=h; exact ⟨by simp,rfl,rfl⟩
 | cons X parts ih =>
  intro xs p h hp
  simp only [List.map_cons,aElems] at h
  split at h
  ·rename_i p1 xs' q hs hr
   split at h
   ·rename_i hpure
    simp only [Option.some.injEq,Prod.mk.injEq] at h
    obtain ⟨rfl,rfl⟩:=h
    obtain ⟨k1,k2,k3⟩:=ih xs' q hr hp.2
    have hne:s.ev (opd X)≠.top:=by intro e; rw [e] at hs; cases hs
    have hnt:∀ xs,s.ev (opd X)≠.tup xs:=by intro xs e; rw [e] at hs; cases hs
    obtain ⟨vs,hc,hv⟩:=(ev_ok hf X).cs hne hnt
    have hl:=szOk_ok hc hs hp.1
    have hcl:=cells_wrapv hc (hc.multi_or hne)
    rw [← hv] at hcl
    refine ⟨?_,?_,by simp [k3]⟩
    ·intro v hvm
     simp only [List.map_cons,List.mem_cons] at hvm
     rcases hvm with rfl | hvm
     ·rw [← Array.length_toList,hcl,hl]
     ·exact k1 v hvm
    ·simp only [List.map_cons,List.flatten_cons,hcl]
     exact ⟨vs,_,rfl,hl,pureB_ok 4 hc hpure,k2⟩
   ·cases h
  ·cases h
theorem rw_new {w' : World} {e:TypeId} {sz n c:Nat} {cur:Array Value} {fr:Nat × Nat} {us:List Value} {g:Nat} (hg:w'.heap[g]?=some (.cells cur e fr)) (hf:Mk fr cur.size) (hul:us.length=n * sz)
  (h1:n≤c) (h2:c≤9223372036854775807) (h3:cur.size=c * sz) (h4:cur.toList.take (n * sz)=us):Rw w' e ⟨some ⟨g,0,none⟩,c,n,sz⟩ us :=
 ⟨hul,.inr ⟨g,cur,fr,rfl,hg,hf,h1,h2,h3,h4⟩⟩
theorem zipIdx_range:∀ (l:List (Nat × Operand)) (k:Nat),l.map (·.1)=List.range' k l.length→∀ (f:Operand→Value),l.map (fun q=>(q.1,f q.2))=((l.map fun q=>f q.2).zipIdx k).map fun p=>(p.2,p.1):=by
 intro l
 induction l with
 | nil=>intro k _ f; rfl
 | cons q l ih =>
  intro k h f
  simp only [List.map_cons,List.length_cons,List.range'_succ,List.cons.injEq] at h
  simp only [List.map_cons,List.zipIdx_cons,ih (k+1) h.2 f,h.1]
theorem anew_ok {s:St} {a:Act} {o:Oper} {ao:AOp} {xf:Nat→AV} {ob:AObj} {p:Prop} (H:ObsOk w S ρ s.hp) (slt:∀ b,S b→b<w.heap.size) (hf:FrOk w S ρ s.fr a.tmps) (hm:Mt2 P o.op ao) (h:anew s ao=some (xf,ob,p)) (hp' : p) :
  ∃ v w',(execOp a.eval o).run P w=.ok (.value v) w' ∧ Below w.heap.size w w' ∧ ob.ver=0∧∀ id,(∀ u,ρ id u=none)→∃ L,ObjOk w' S (rset ρ id 0 L) id ob∧Vl w' S (rset ρ id 0 L) (xf id) v∧(∀ b,ob.blk (rset ρ id 0 L) id=some b→w.heap.size≤b):=by
 have ev:=ev_ok hf
 have rv:∀ {m:Sem Value} {q:Value} {w' : World},m.run P w=.ok q w' → (do pure (Next.value (← m)):Sem Next).run P w=.ok (.value q) w' := by
  intro m q w' h
  simp only [Sem.run_bind,h,Result.andThen_ok]; rfl
 have eA:∀ (X:Obj) id L,(∀ u,ρ id u=none)→Ext w (w.alloc X) S S ρ (rset ρ id 0 L):=fun X id L hn=>⟨fun b hb=>Below.heap_alloc w X b (slt b hb),fun _ h=>h,rset_mono hn L⟩
 have nS:∀ g,S g→w.heap.size≤g→False:=fun g hg hle=>by have:=slt g hg; omega
 have cellsOb:∀ (t:TypeId) (ps:List (Nat × AV)) (us:List Value),Css w S ρ ps us→∀ id,(∀ u,ρ id u=none)→∃ L,ObjOk (w.alloc (.cells us.toArray t)) S (rset ρ id 0 L) id (.cells t ps)∧Vl (w.alloc (.cells us.toArray t)) S (rset ρ id 0 L) (.ref id 0 0) (.pointer (some ⟨w.heap.size,0,none⟩))∧(∀ b,(AObj.cells t ps).blk (rset ρ id 0 L) id=some b→w.heap.size≤b):=by
  intro t ps us hc id hn
  refine ⟨⟨some ⟨w.heap.size,0,none⟩,0,0,0⟩,⟨w.heap.size,us,rset_self _ _ _ _,heap_alloc_new w _,hc.ext (eA _ id _ hn),fun hs=>nS _ hs (Nat.le_refl _)⟩,.inr ⟨_,.ref id 0 0 w.heap.size _ (rset_self _ _ _ _) rfl,rfl⟩,?_⟩
  intro b hb
  simp only [AObj.blk,rset_self,Option.bind_some,ablk,Option.map_some] at hb
  injection hb with hb; omega
 have rowOb:∀ (e:TypeId) (sz:Nat) (xs:List AV) (us:List Value) (w' : World) (L:Lc),Below w.heap.size w w' → Css w S rho0 (prs sz xs) us→Rw w' e L us→L.n=xs.length→L.sz=sz→(∀ b,ablk L.A=some b→w.heap.size≤b)→∀ id,(∀ u,ρ id u=none) →
   ∃ L',ObjOk w' S (rset ρ id 0 L') id (.row e sz 0 xs)∧Vl w' S (rset ρ id 0 L') (.own id 0) (.slice L.A L.n L.c)∧(∀ b,(AObj.row e sz 0 xs).blk (rset ρ id 0 L') id=some b→w.heap.size≤b):=by
  intro e sz xs us w' L hbel hc hrw hn hsz hb id hid
  refine ⟨L,⟨L,us,rset_self _ _ _ _,hn,hsz,hrw,hc.ext ⟨fun b hb=>hbel.block b (slt b hb),fun _ h=>h,fun _ _ _ h=>by cases h⟩,fun g hg hs=>nS g hs (hb g hg)⟩,.inr ⟨_,.own id 0 L (rset_self _ _ _ _),rfl⟩,?_⟩
  intro b hbb
  simp only [AObj.blk,rset_self,Option.bind_some] at hbb
  exact hb b hbb
 cases ao <;> simp only [anew,reduceCtorEq] at h
 case mkMap ks =>
  obtain ⟨t,ho⟩:=hm
  injection h with h; injection h with e1 e2; injection e2 with e2 e3; subst e1 e2
  refine ⟨.map (some w.heap.size),w.alloc (.map #[] 0),?_,(Below.refl _ _).alloc (Nat.le_refl _) _,rfl,fun id hn=>?_⟩
  ·simp only [execOp,ho]
   exact rv (show (Instr.makeMap t none).run P w=_ from rfl)
  ·refine ⟨⟨some ⟨w.heap.size,0,none⟩,0,0,0⟩,⟨w.heap.size,#[],0,rset_self _ _ _ _,heap_alloc_new w _,trivial,MapKept.stamped_empty 0,fun hs=>nS _ hs (Nat.le_refl _)⟩,.inr ⟨_,.mpv id w.heap.size _ (rset_self _ _ _ _) rfl,rfl⟩,?_⟩
   intro b hb
   simp only [AObj.blk,rset_self,Option.bind_some,ablk,Option.map_some] at hb
   injection hb with hb; omega
 case new t ps =>
  obtain ⟨i,z,ho,h1,h2,h3⟩:=hm
  injection h with h; injection h with e1 e2; injection e2 with e2 e3; subst e1 e2
  refine ⟨.pointer (some ⟨w.heap.size,0,none⟩),w.alloc (.cells z.cells t),?_,(Below.refl _ _).alloc (Nat.le_refl _) _,rfl,?_⟩
  ·simp only [execOp,ho]
   exact rv (by simp [Instr.alloc,zeroValue,typeInfo,h1,h2,newVar,newRow])
  ·have:=cellsOb t ps z.cells.toList (h3 w S ρ)
   simpa using this
 case box t sz x =>
  obtain ⟨X,ho,rfl⟩:=hm
  split at h
  ·rename_i q hq
   injection h with h; injection h with e1 e2; injection e2 with e2 e3; subst e1 e2 e3
   have hne:s.ev (opd X)≠.top:=by intro e; rw [e] at hq; cases hq
   have hnt:∀ xs,s.ev (opd X)≠.tup xs:=by intro xs e; rw [e] at hq; cases hq
   obtain ⟨vs,hc,hv⟩:=(ev X).cs hne hnt
   have hl:=szOk_ok hc hq hp'
   have hcl:=cells_wrapv hc (hc.multi_or hne)
   rw [← hv] at hcl
   have hca:(a.eval X).cells=vs.toArray:=by rw [← hcl]
   refine ⟨.pointer (some ⟨w.heap.size,0,none⟩),w.alloc (.cells vs.toArray t),?_,(Below.refl _ _).alloc (Nat.le_refl _) _,rfl,cellsOb t _ vs (Css.single hc hl)⟩
   simp only [execOp,ho]
   exact rv (by simp [Instr.box,newVar,newRow,hca])
  ·cases h
 case buildSl e sz parts =>
  obtain ⟨t,i,z,n,ps,ho,h1,h2,h3,h4,h5,h6,rfl⟩:=hm
  split at h
  ·rename_i xs q hq
   injection h with h; injection h with e1 e2; injection e2 with e2 e3; subst e1 e2 e3
   have hmap:ps.toList.map (fun (q:Nat × Operand)=>opd q.2)=(ps.toList.map (·.2)).map opd:=by rw [List.map_map]; rfl
   rw [hmap] at hq
   obtain ⟨k1,k2,k3⟩:=aElems_ok hf (ps.toList.map (·.2)) xs q hq hp'.1
   have hlen:ps.toList.length=n:=by rw [← List.length_map (f:=(·.1)),h6,List.length_range]
   have hxs:xs.length=n:=by rw [k3,List.length_map,hlen]
   have hus:=k2.len
   rw [psz_prs,hxs] at hus
   generalize hU:((ps.toList.map (·.2)).map a.eval |>.map fun v=>v.cells.toList).flatten=us at k2 hus
   have hfill:∀ (zc:Array Value),zc.size=n * sz→Instr.fill (fun i=>some (i * sz,sz)) zc (ps.toList.map fun q=>(q.1,a.eval q.2))=some us.toArray:=by
    intro zc hz
    have hr:=zipIdx_range ps.toList 0 (by rw [h6,hlen,List.range_eq_range']) a.eval
    have:=fill_all sz ((ps.toList.map (·.2)).map a.eval) 0 [] zc.toList k1 (by simp) (by simp only [Array.length_toList,List.length_map,hz,hlen])
    have e0:(ps.toList.map fun (q:Nat × Operand)=>a.eval q.2)=(ps.toList.map (·.2)).map a.eval:=by rw [List.map_map]; rfl
    rw [hr,e0]
    rw [List.nil_append,List.nil_append,hU] at this
    exact this
   have hrun:(Instr.buildSlice t n (ps.map fun (i,x)=>(i,a.eval x))).run P w=.ok (.slice (some ⟨w.heap.size,0,none⟩) n n) (w.alloc (.cells us.toArray e)):=by
    have hps:(ps.map fun (i,x)=>(i,a.eval x)).toList=ps.toList.map fun q=>(q.1,a.eval q.2):=by simp
    have hno:¬ n * sz > 2 ^ 24:=by omega
    by_cases hz:n * sz=0
    ·have:=hfill #[] (by rw [hz]; rfl)
     simp [Instr.buildSlice,run_underlying h1,sizeOf,typeInfo,h2,h3,hno,hz,newRow,Array.range_zero',hps,this]
    ·have hzz:=hfill ((Array.range (n * sz)).map (z.cells[· % z.cells.size]!)) (by simp)
     simp [Instr.buildSlice,run_underlying h1,sizeOf,typeInfo,h2,h3,hno,hz,zeroValue,h4,newRow,hps,hzz]
   refine ⟨_,_,by simp only [execOp,ho]; exact rv hrun,(Below.refl _ _).alloc (Nat.le_refl _) _,rfl,?_⟩
   have hrw:Rw (w.alloc (.cells us.toArray e)) e ⟨some ⟨w.heap.size,0,none⟩,n,n,sz⟩ us:=by
    refine rw_new (cur:=us.toArray) (fr:=(0,0)) (heap_alloc_new w _) (.inl rfl) hus (Nat.le_refl _) (by have:=hp'.2; unfold lenOk at this; omega) (by simpa using hus) ?_
    rw [← hus]; simp
   exact rowOb e sz xs us _ _ ((Below.refl _ _).alloc (Nat.le_refl _) _) k2 hrw hxs.symm rfl (fun b hb=>by simp only [ablk,Option.map_some] at hb; injection hb with hb; omega)
  ·cases h
 case mkSl e sz bytes z l c =>
  obtain ⟨t,i,zv,L,C,ho,h1,h2,h3,rfl,rfl,h6,h7,rfl,rfl,rfl⟩:=hm
  split at h
  ·rename_i k1 na k2 nb hna hnb
   injection h with h; injection h with e1 e2; injection e2 with e2 e3; subst e1 e2 e3
   obtain ⟨p0,p1,p2,p3⟩:=hp'
   have hL:=(hna ▸ ev L).int
   have hC:=(hnb ▸ ev C).int
   have hzc:zv.cells=#[zv]:=by cases zv <;> first | rfl | cases h7
   have hmade:madeCells zv.cells (nb.toNat * 1)=(List.replicate nb.toNat zv).toArray:=by
    rw [hzc,Nat.mul_one]
    apply Array.ext
    ·simp [madeCells]
    ·intro j h1 h2; simp [madeCells,Nat.mod_one]
   have hrun:=run_make (P:=P) w t e i zv h1 h2 h6 k1 k2 na nb p0 p1 p2 p3
   rw [h3,hmade] at hrun
   refine ⟨_,_,by simp only [execOp,ho,hL,hC]; exact rv hrun,(Below.refl _ _).alloc (Nat.le_refl _) _,rfl,?_⟩
   have hrw:Rw (w.alloc (.cells (List.replicate nb.toNat zv).toArray e)) e ⟨some ⟨w.heap.size,0,none⟩,nb.toNat,na.toNat,1⟩ (List.replicate na.toNat zv):=by
    refine rw_new (cur:=(List.replicate nb.toNat zv).toArray) (fr:=(0,0)) (heap_alloc_new w _) (.inl rfl) (by simp) (by omega) (by omega) (by simp) ?_
    simp only [Nat.mul_one,List.toList_toArray,List.take_replicate]
    congr 1; omega
   refine rowOb e 1 _ (List.replicate na.toNat zv) _ _ ((Below.refl _ _).alloc (Nat.le_refl _) _) ?_ hrw (by simp) rfl (fun b hb=>by simp only [ablk,Option.map_some] at hb; injection hb with hb; omega)
   clear hrw hrun hmade
   induction na.toNat with
   | zero=>rfl
   | succ n ih=>exact ⟨[zv],List.replicate n zv,rfl,rfl,cs_ofC zv h7,ih⟩
  ·cases h
 case bytes e x =>
  obtain ⟨src,dst,X,ho,h1,h2,h3,rfl⟩:=hm
  split at h
  ·rename_i l hl
   injection h with h; injection h with e1 e2; injection e2 with e2 e3; subst e1 e2 e3
   have hX:=(hl ▸ ev X).str
   have hrun:=run_bytes_of_string (P:=P) w src dst e ⟨l.toArray⟩ h1 h2 h3
   have hsz:(⟨l.toArray⟩:ByteArray).size=l.length:=rfl
   rw [hsz] at hrun
   have hge:=grownCap_ge w l.length 0 e
   have hp2:l.length≤9223372036854775807:=hp'
   have hcm:grownCap w l.length 0 e≤9223372036854775807:=by
    have:=grownCap_le_maxLen w l.length 0 e (by simp only [maxLen]; omega)
    simp only [maxLen] at this; omega
   have hbr:bytesRow ⟨l.toArray⟩ (grownCap w l.length 0 e)=(l.map U ++ List.replicate (grownCap w l.length 0 e - l.length) (Value.int .u8 0)).toArray:=by
    unfold bytesRow
    apply Array.ext'
    simp [ByteArray.size]
    intro a _; rfl
   rw [hbr] at hrun
   refine ⟨_,_,by simp only [execOp,ho,hX]; exact rv hrun,((Below.refl _ _).drew).alloc (Nat.le_refl _) _,rfl,?_⟩
   refine rowOb e 1 (Bs l) (l.map U) _ ⟨some ⟨w.heap.size,0,none⟩,grownCap w l.length 0 e,l.length,1⟩ (((Below.refl _ _).drew).alloc (Nat.le_refl _) _) (css_bytes l) ?_ (by simp [Bs]) rfl (fun b hb=>by simp only [ablk,Option.map_some] at hb; injection hb with hb; omega)
   refine rw_new (heap_alloc_new w.drew _) (.inr (Nat.le_refl _)) (by simp) hge hcm (by simp; omega) ?_
   simp only [Nat.mul_one,List.toList_toArray]
   rw [List.take_left' (by simp)]
  ·cases h
 case appS e x y =>
  obtain ⟨t,u0,i,X,Y,ho,h1,h2,h3,h4,h5,h6,rfl,rfl⟩:=hm
  split at h
  ·rename_i u l hu hl
   split at h
   ·rename_i hn
    injection h with h; injection h with e1 e2; injection e2 with e2 e3; subst e1 e2 e3
    have hX:=(hu ▸ ev X).con.trans (nilS_eq hn)
    have hY:=(hl ▸ ev Y).str
    have hr0:Rw w e ⟨none,0,0,1⟩ []:=⟨by simp,.inl ⟨rfl,rfl,rfl⟩⟩
    obtain ⟨L',w',r1,r2,r3,r4,r5,r6⟩:=run_append_rwS (P:=P) (ty:=o.type) h1 h2 h3 h4 h5 rfl hr0 l (by have h9:=hp'.1; unfold lenOk at h9; simp only; omega) (by rw [h6]; have h9:=hp'.2; unfold bytesOk at h9; simp only; omega)
    have hbel:Below w.heap.size w w' := ⟨r5.os,r5.tape,r5.output,r5.size,fun k hk=>r5.block k hk (by simp [ablk])⟩
    refine ⟨.slice L'.A L'.n L'.c,w',?_,hbel,rfl,?_⟩
    ·simp only [execOp,ho,resolve,Sem.run_bind,Sem.run_pure,Result.andThen_ok,invoke,builtin,List.map_toArray,List.map_cons,List.map_nil,hX,hY]
     simp only at r1
     rw [r1]; rfl
    ·exact rowOb e 1 (Bs l) (l.map U) w' L' hbel (css_bytes l) (by simpa using r2) (by rw [r3]; simp [Bs]) r4 (fun b hb=>by
      rcases r6 with h6 | h6
      ·rw [h6] at hb; cases hb
      ·rw [h6] at hb; injection hb with hb; omega)
   ·cases h
  ·cases h
 case app e sz bytes x y =>
  obtain ⟨t,X,Y,ho,hT,rfl,rfl⟩:=hm
  split at h
  ·rename_i u hu
   split at h
   ·rename_i hn
    split at h
    ·rename_i ys hy
     injection h with h; injection h with e1 e2; injection e2 with e2 e3; subst e1 e2 e3
     have hX:=(hu ▸ ev X).con.trans (nilS_eq hn)
     obtain ⟨A2,m,c2,vs,hY,hM⟩:=view_ok H hy (ev Y)
     obtain ⟨i,z,i1,i2,i3,i4,i5⟩:=hT.parts
     subst i4 i5
     have hr0:Rw w e ⟨none,0,0,i.size⟩ []:=⟨by simp,.inl ⟨rfl,rfl,rfl⟩⟩
     obtain ⟨L',w',r1,r2,r3,r4,r5,r6⟩:=run_append_rw (P:=P) (ty:=o.type) hT.under i1 i2 i3 rfl hr0 (by rw [hM.ulen,← hM.len]) hM.css.cs.one hM.cell hT.pos (m:=m) (c2:=c2) (by have:=hM.len; have h9:=hp'.1; unfold lenOk at h9; simp only; omega) (by have:=hM.len; simp only [Nat.zero_add]; rw [this]; exact hp'.2)
     have hbel:Below w.heap.size w w' := ⟨r5.os,r5.tape,r5.output,r5.size,fun k hk=>r5.block k hk (by simp [ablk])⟩
     refine ⟨.slice L'.A L'.n L'.c,w',?_,hbel,rfl,?_⟩
     ·simp only [execOp,ho,resolve,Sem.run_bind,Sem.run_pure,Result.andThen_ok,invoke,builtin,List.map_toArray,List.map_cons,List.map_nil,hX,hY]
      simp only at r1
      rw [r1]; rfl
     ·exact rowOb e i.size ys vs w' L' hbel hM.css (by simpa using r2) (by rw [r3,hM.len]; simp) r4 (fun b hb=>by
       rcases r6 with h6 | h6
       ·rw [h6] at hb; cases hb
       ·rw [h6] at hb; injection hb with hb; omega)
    ·cases h
   ·cases h
  ·cases h
end
end Go.Proofs.YtakolikdebfkeaaDoor
namespace Go.Proofs.YtakolikdebfkeaaDoor
open Go.RowKit
def wrP (rt:Rt) (ps:List (Nat × AV)) (o off:Nat) (x:AV):Option (List (Nat × AV) × Prop) :=
 match rt with
 | .one _=>match pt ps o with
  | some (n,.blob cs)=>match toV x with
   | some v=>(spl ps o n [(n,.blob (cs.set off v))]).map fun q=>(q,off<cs.length)
   | none=>none
  | some (n,_)=>if off=0∧n=1∧x.one=true then (spl ps o 1 [(1,x)]).map fun q=>(q,True) else none
  | none=>none
 | .arr n=>if off=0 then match szOk n x,spl ps o n (pparts n x) with
  | some p,some q=>some (q,p)
  | _,_=>none else none
 | .st n=>if off=0 then match szOk n x,spl ps o n (pparts n x) with
  | some p,some q=>some (q,p)
  | _,_=>none else none
def unparts (X:AV) (ps:List (Nat × AV)):Option AV :=
 match X with
 | .agg _=>some (.agg ps)
 | _=>match ps with
  | [(_,y)]=>match y with
   | .agg _=>none
   | y=>some y
  | _=>none
def AV.real:AV→Bool
 | .top | .tup _=>false
 | _=>true
def aeff (s:St):AOp→Option (AV × Nat × AObj × Prop)
 | .st rt a x=>match s.ev a with
  | .ref id o off=>match s.hp[id]? with
   | some (.cells t ps)=>(wrP rt ps o off (s.ev x)).map fun (q:List (Nat × AV) × Prop)=>(.top,id,.cells t q.1,q.2)
   | _=>none
  | .rowp id v i z o off=>match s.hp[id]? with
   | some (.row e sz v' xs)=>if v=v' ∧ pureB 4 (s.ev x)=true then match wrP rt (pparts sz (xs.getD i z)) o off (s.ev x) with
    | some (q,p)=>match unparts (xs.getD i z) q with
     | some X=>some (.top,id,.row e sz v (xs.set i X),p∧i<xs.length)
     | none=>none
    | none=>none else none
   | _=>none
  | _=>none
 | .app e sz bytes x y=>match s.ev x with
  | .own id v=>match s.hp[id]?,view s.hp sz (s.ev y) with
   | some (.row e' s' v' xs),some ys=>if v=v' ∧ e=e' ∧ s' = sz then some (.own id (v+1),id,.row e sz (v+1) (xs ++ ys),lenOk (xs ++ ys).length∧bytesOk ((xs ++ ys).length * bytes)) else none
   | _,_=>none
  | .ownv id v 0 m=>match s.hp[id]?,view s.hp sz (s.ev y) with
   | some (.row e' s' v' xs),some ys=>if v=v' ∧ e=e' ∧ s' = sz then some (.own id (v+1),id,.row e sz (v+1) (xs.take m ++ ys),m≤xs.length∧lenOk (xs.take m ++ ys).length∧bytesOk ((xs.take m ++ ys).length * bytes)) else none
   | _,_=>none
  | _=>none
 | .appS e x y=>match s.ev x,s.ev y with
  | .own id v,.str l=>match s.hp[id]? with
   | some (.row e' s' v' xs)=>if v=v' ∧ e=e' ∧ s' = 1 then some (.own id (v+1),id,.row e 1 (v+1) (xs ++ Bs l),lenOk (xs ++ Bs l).length∧bytesOk (xs ++ Bs l).length) else none
   | _=>none
  | .ownv id v 0 m,.str l=>match s.hp[id]? with
   | some (.row e' s' v' xs)=>if v=v' ∧ e=e' ∧ s' = 1 then some (.own id (v+1),id,.row e 1 (v+1) (xs.take m ++ Bs l),m≤xs.length∧lenOk (xs.take m ++ Bs l).length∧bytesOk (xs.take m ++ Bs l).length) else none
   | _=>none
  | _,_=>none
 | .mark x=>match s.ev x with
  | .own id v=>match s.hp[id]? with
   | some (.row e sz v' xs)=>if v=v' then some (.own id v,id,.row e sz v' xs,0<xs.length) else none
   | _=>none
  | _=>none
 | .mput ks m x v=>match s.ev m with
  | .mpv id=>match s.hp[id]?,mkOf ks (s.ev x) with
   | some (.mp ks' es),some (q,p)=>if ks' = ks∧(s.ev v).real=true then some (.top,id,.mp ks (putM es q (s.ev v)),p) else none
   | _,_=>none
  | _=>none
 | _=>none
section
variable {P : Program} {F : Nat → Prop} {w0 w : World} {S : Nat → Prop} {ρ : Rho}
theorem splice_set (us cs:List Value) (o n off:Nat) (v:Value) (h:(us.drop o).take n=cs) (hl:o+n≤us.length) (ho:off<cs.length) :
  us.take o ++ cs.set off v ++ us.drop (o+n)=us.take (o+off) ++ [v] ++ us.drop (o+off+1):=by
 have hcl:cs.length=n:=by rw [← h,List.length_take,List.length_drop]; omega
 have hu:us=us.take o ++ (cs ++ us.drop (o+n)):=by
  rw [← h,← List.drop_drop,List.take_append_drop,List.take_append_drop]
 have h1:us.set (o+off) v=us.take o ++ cs.set off v ++ us.drop (o+n):=by
  conv=>lhs; rw [hu]
  rw [List.set_append_right _ _ (by rw [List.length_take]; omega),List.length_take,Nat.min_eq_left (by omega),Nat.add_sub_cancel_left,List.set_append_left _ _ ho,List.append_assoc]
 rw [← h1,List.set_eq_take_append_cons_drop,if_pos (by omega)]
 simp
theorem take_splice (c vs:List Value) (N k:Nat) (h:k+vs.length≤N) (hN:N≤c.length):(c.take k ++ vs ++ c.drop (k+vs.length)).take N=(c.take N).take k ++ vs ++ (c.take N).drop (k+vs.length):=by
 have h1:(c.take k ++ vs).length=k+vs.length:=by rw [List.length_append,List.length_take]; omega
 rw [List.take_append,List.take_of_length_le (by omega),h1,List.drop_take,List.take_take,Nat.min_eq_left (by omega)]
theorem wrP_ok {rt:Rt} {ps qs:List (Nat × AV)} {o off:Nat} {x:AV} {p:Prop} {us:List Value} {v:Value} (h:Css w S ρ ps us) (hw:wrP rt ps o off x=some (qs,p)) (hp:p) (hx:Vl w S ρ x v) :
  ∃ vs,v.cells.toList=vs∧vs.length=rt.size∧(∀ u∈vs,u.oneCell' = true)∧o+off+rt.size≤us.length∧Css w S ρ qs (us.take (o+off) ++ vs ++ us.drop (o+off+rt.size)):=by
 have big:∀ n,off=0→(match szOk n x,spl ps o n (pparts n x) with | some p,some q=>some (q,p) | _,_=>none)=some (qs,p) →
   ∃ vs,v.cells.toList=vs∧vs.length=n∧(∀ u∈vs,u.oneCell' = true)∧o+off+n≤us.length∧Css w S ρ qs (us.take (o+off) ++ vs ++ us.drop (o+off+n)):=by
  intro n h0 he
  subst h0
  split at he
  ·rename_i p' q hs hq
   simp only [Option.some.injEq,Prod.mk.injEq] at he
   obtain ⟨rfl,rfl⟩:=he
   have hne:x≠.top:=by intro e; rw [e] at hs; cases hs
   have hnt:∀ xs,x≠.tup xs:=by intro xs e; rw [e] at hs; cases hs
   obtain ⟨vs,hc,hv⟩:=hx.cs hne hnt
   have hl:=szOk_ok hc hs hp
   obtain ⟨k1,k2⟩:=spl_ok h (Css.single hc hl) hq
   have hcl:=cells_wrapv hc (hc.multi_or hne)
   rw [← hv] at hcl
   exact ⟨vs,hcl,hl,hc.one,by simpa using k2,by simpa using k1⟩
  ·cases he
 unfold wrP at hw
 split at hw
 ·split at hw
  ·rename_i n cs hq
   split at hw
   ·rename_i u hu
    obtain ⟨q,hq2,e⟩:=Option.map_eq_some_iff.1 hw
    injection e with e1 e2; subst e1 e2
    obtain ⟨hv,h1⟩:=toV_ok hu hx
    obtain ⟨k1,k2⟩:=pt_ok h hq
    have k1' : (us.drop o).take n=cs∧∀ u∈cs,u.oneCell' = true:=by
     generalize hg:(us.drop o).take n=ws at k1
     cases k1 with
     | blob _ hb=>exact ⟨rfl,hb⟩
    have hcl:cs.length=n:=by rw [← k1'.1,List.length_take,List.length_drop]; omega
    have hcs:Css w S ρ [(n,.blob (cs.set off u))] (cs.set off u):=⟨_,[],by simp,by simp [hcl],.blob _ (fun y hy=>by
     rcases List.mem_or_eq_of_mem_set hy with hy | rfl
     ·exact k1'.2 y hy
     ·exact h1),rfl⟩
    obtain ⟨s1,s2⟩:=spl_ok h hcs hq2
    have hvc:v.cells.toList=[u]:=by rw [hv]; cases u <;> first | rfl | cases h1
    refine ⟨[u],hvc,rfl,by simpa using h1,by simp only [Rt.size]; omega,?_⟩
    rw [splice_set us cs o n off u k1'.1 k2 hp] at s1
    exact s1
   ·cases hw
  ·rename_i n y hne hq
   split at hw
   ·rename_i e; obtain ⟨rfl,rfl,h1⟩:=e
    obtain ⟨q,hq2,e⟩:=Option.map_eq_some_iff.1 hw
    injection e with e1 e2; subst e1 e2
    have hc:=hx.cs1 h1
    have hs1:Css w S ρ [(1,x)] [v]:=⟨[v],[],rfl,rfl,hc,rfl⟩
    obtain ⟨s1,s2⟩:=spl_ok h hs1 hq2
    have ho:=hc.one v (by simp)
    have hvc:v.cells.toList=[v]:=by cases v <;> first | rfl | cases ho
    exact ⟨[v],hvc,rfl,by simpa using ho,by simp only [Rt.size]; omega,by simpa [Rt.size] using s1⟩
   ·cases hw
  ·cases hw
 ·split at hw
  ·rename_i n e; exact big n e hw
  ·cases hw
 ·split at hw
  ·rename_i n e; exact big n e hw
  ·cases hw
theorem Css.setElem {sz:Nat} {X' : AV} {el:List Value} (hc:Cs w S ρ X' el) (hl:el.length=sz):∀ (xs:List AV) (us:List Value) (i:Nat),Css w S ρ (prs sz xs) us→i<xs.length →
  Css w S ρ (prs sz (xs.set i X')) (us.take (i * sz) ++ el ++ us.drop (i * sz+sz)):=by
 intro xs
 induction xs with
 | nil=>intro us i _ h; simp at h
 | cons x xs ih =>
  intro us i h hi
  obtain ⟨u1,u2,rfl,h1,h2,h3⟩:=h
  cases i with
  | zero =>
   refine ⟨el,u2,?_,hl,hc,h3⟩
   simp only [Nat.zero_mul,List.take_zero,List.nil_append,Nat.zero_add]
   rw [← h1,List.drop_left]
  | succ i =>
   refine ⟨u1,u2.take (i * sz) ++ el ++ u2.drop (i * sz+sz),?_,h1,h2,ih u2 i h3 (by simpa using hi)⟩
   rw [Nat.add_mul,Nat.one_mul,List.take_append,List.take_of_length_le (by omega),List.drop_append,List.drop_of_length_le (show u1.length≤i * sz+sz+sz by omega),List.nil_append,h1,
    show i * sz+sz - sz=i * sz by omega,show i * sz+sz+sz - sz=i * sz+sz by omega]
   simp only [List.append_assoc]
theorem unparts_ok {X Y:AV} {sz:Nat} {qs:List (Nat × AV)} {us:List Value} (h:unparts X qs=some Y) (hc:Css w S ρ qs us) (hl:us.length=sz):Cs w S ρ Y us:=by
 unfold unparts at h
 split at h
 ·injection h with h; subst h; exact hc.cs
 ·split at h
  ·rename_i n y
   have:Y=y:=by
    split at h
    ·cases h
    ·injection h with h; exact h.symm
   subst this
   obtain ⟨u1,u2,rfl,h1,h2,h3⟩:=hc
   obtain rfl:=h3
   simpa using h2
  ·cases h
theorem run_storeVar_row {t:TypeId} {rt:Rt} (ht:RtOk P t rt) {g o:Nat} {e:TypeId} {fr:Nat × Nat} {cs:Array Value} (hg:w.heap[g]?=some (.cells cs e fr)) (hf:∀ j,j<cs.size→¬ (fr.1≤j∧j<fr.2))
  {v:Value} {vs:List Value} (hv:v.cells.toList=vs) (hl:vs.length=rt.size) (h1:∀ u∈vs,u.oneCell' = true) (hb:o+rt.size≤cs.size) :
  (Instr.storeAt t (.pointer (some ⟨g,o,none⟩)) v).run P w=.ok () (w.setCells g o vs):=by
 have hst:=run_storeCells_row (P:=P) g o e fr vs cs hg (by omega) hf h1
 have hsz:¬ v.cells.size≠rt.size:=by rw [← Array.length_toList,hv,hl]; simp
 simp only [Instr.storeAt,Instr.sureAddr,Sem.run_bind,Sem.run_pure,Result.andThen_ok,storeVar,ht.size,if_neg hsz,hv]
 exact hst
theorem MapOk.push {ks:KS} {q:MK} {y:AV} {us:List Value} {v:Value} {c:Nat} (hq:ks.ok q) (hc:Cs w S ρ y us) (hv:v=wrapv y us):∀ {es:List (MK × AV)} {l:List MapEntry},MapOk w S ρ ks es l→(∀ e∈l,e.key≠q.val)→MapOk w S ρ ks (putM es q y) (l ++ [{ key:=q.val,val:=v,born:=c }])
 | [],[],_,_=>⟨⟨hq,rfl,us,hc,hv⟩,trivial⟩
 | p :: r,x :: l,⟨⟨h1,h2,h3⟩,h⟩,hn=>by
  obtain ⟨k,z⟩:=p
  unfold putM
  rw [if_neg (fun e=>hn x (by simp) (by rw [h2,e]))]
  exact ⟨⟨h1,h2,h3⟩,h.push hq hc hv (fun e he=>hn e (by simp [he]))⟩
 | [],_ :: _,h,_=>h.elim
 | _ :: _,[],h,_=>h.elim
theorem MapOk.modify {ks:KS} {q:MK} {y:AV} {us:List Value} {v:Value} (hq:ks.ok q) (hc:Cs w S ρ y us) (hv:v=wrapv y us):∀ {es:List (MK × AV)} {l:List MapEntry} {j:Nat} {e:MapEntry},MapOk w S ρ ks es l→(l.map (·.key)).Nodup→l[j]?=some e→e.key=q.val→MapOk w S ρ ks (putM es q y) (l.modify j fun e=>{ e with key:=q.val,val:=v })
 | [],[],j,e,_,_,he,_=>by simp at he
 | p :: r,x :: l,j,e,⟨⟨h1,h2,h3⟩,h⟩,hn,he,hk=>by
  obtain ⟨k,z⟩:=p
  simp only [List.map_cons,List.nodup_cons] at hn
  cases j with
  | zero =>
   simp only [List.getElem?_cons_zero,Option.some.injEq] at he; subst he
   have hkq:=MK.val_inj h1 hq (by rw [← h2,hk])
   simp only at hkq; subst hkq
   unfold putM
   rw [if_pos rfl]
   exact ⟨⟨h1,rfl,us,hc,hv⟩,h⟩
  | succ j =>
   simp only [List.getElem?_cons_succ] at he
   unfold putM
   rw [if_neg (fun e' => hn.1 (by
    rw [h2]; simp only
    rw [e',← hk]
    exact List.mem_map.2 ⟨e,List.mem_of_getElem? he,rfl⟩))]
   exact ⟨⟨h1,h2,h3⟩,h.modify hq hc hv hn.2 he hk⟩
 | [],_ :: _,_,_,h,_,_,_=>h.elim
 | _ :: _,[],_,_,h,_,_,_=>h.elim
theorem aeff_ok {s:St} {a:Act} {o:Oper} {ao:AOp} {x:AV} {id:Nat} {ob' : AObj} {p:Prop} (H:HeapOk F w0 S ρ s.hp w) (hf:FrOk w S ρ s.fr a.tmps)
  (hm:Mt2 P o.op ao∨∃ t A X rt,ao=.st rt (opd A) (opd X)∧o.op=.store t A X∧RtOk P t rt) (h:aeff s ao=some (x,id,ob',p)) (hp' : p) :
  ∃ q w' ρ',((execOp a.eval o).run P w=.ok (.value q) w' ∨ ((execOp a.eval o).run P w=.ok .skip w' ∧ q=undef))∧Vl w' S ρ' x q∧HeapOk F w0 S ρ' (s.hp.set id ob') w' ∧ Ext w w' S S ρ ρ' := by
 have ev:=ev_ok hf
 have upd:=fun {id:Nat} {o o' : AObj} {w' : World} {ρ' : Rho} (hid:s.hp[id]?=some o) (hg:w.grownBy w' (o.blk ρ id))=>H.upd (w' := w') (S' := S) (ρ' := ρ') (o' := o') hid hg (fun _ h=>h) (fun _ h=>.inl h)
 cases ao <;> simp only [aeff,reduceCtorEq] at h
 case st rt a' x' =>
  obtain ⟨t,A,X,ho,ht,rfl,rfl⟩:∃ t A X,o.op=.store t A X∧RtOk P t rt∧a' = opd A∧x' = opd X:=by
   rcases hm with hm | ⟨t,A,X,rt',e,h1,h2⟩
   ·exact hm.elim
   ·cases e; exact ⟨t,A,X,h1,h2,rfl,rfl⟩
  have fin:∀ {ad:Addr} {w' : World},a.eval A=.pointer (some ad)→(Instr.storeAt t (.pointer (some ad)) (a.eval X)).run P w=.ok () w' → (execOp a.eval o).run P w=.ok .skip w' := by
   intro ad w' hA hr
   simp only [execOp,ho,hA,Sem.run_bind,hr,Result.andThen_ok]; rfl
  split at h
  ·rename_i id' o' off hA
   split at h
   ·rename_i t' ps hob
    obtain ⟨⟨q1,q2⟩,hq,e⟩:=Option.map_eq_some_iff.1 h
    injection e with e1 e2; injection e2 with e2 e3; injection e3 with e3 e4; subst e1 e2 e3 e4
    obtain ⟨g,L,h1,h2,hAv⟩:=(hA ▸ ev A).ref
    obtain ⟨g',us,k1,k2,k3,k4⟩:=H.ob _ _ hob
    rw [h1] at k1; injection k1 with k1; subst k1
    injection h2 with h2; injection h2 with h2; subst h2
    obtain ⟨vs,v1,v2,v3,v4,v5⟩:=wrP_ok k3 hq hp' (ev X)
    have hrun:=run_storeVar_row (P:=P) ht (g:=g') (o:=o' + off) k2 (fun j _ h=>by simp at h) v1 v2 v3 (by simpa using v4)
    obtain ⟨s1,s2⟩:=setCells_row g' t' (0,0) vs (o' + off) w us.toArray k2 (by simpa [v2] using v4)
    have hblk:(AObj.cells t' ps).blk ρ id' = some g' := by simp [AObj.blk,h1,ablk]
    have hE:Ext w (w.setCells g' (o' + off) vs) S S ρ ρ:=⟨fun b hb=>s2.block b (H.slt b hb) (fun e=>by injection e with e; subst e; exact k4 hb),fun _ h=>h,fun _ _ _ h=>h⟩
    obtain ⟨u1,u2⟩:=upd (o' := .cells t' q1) (ρ' := ρ) hob (by rw [hblk]; exact s2) (fun _ _ _ h=>h) (fun _ _ _=>rfl)
     ⟨g',_,h1,by simp only [v2,List.toList_toArray] at s1; exact s1,v5.ext hE,k4⟩ (fun v hv=>H.vers _ _ hob v hv) (fun b hb=>.inl (by simpa [AObj.blk] using hb))
    exact ⟨undef,_,ρ,.inr ⟨fin hAv hrun,rfl⟩,Vl.top _,u1,u2⟩
   ·cases h
  ·rename_i id' ver i z o' off hA
   split at h
   ·rename_i e sz v' xs hob
    split at h
    ·rename_i hc
     obtain ⟨rfl,hpure⟩:=hc
     split at h
     ·rename_i q p' hq
      split at h
      ·rename_i Y hY
       injection h with e; injection e with e1 e2; injection e2 with e2 e3; injection e3 with e3 e4; subst e1 e2 e3 e4
       obtain ⟨hp1,hi⟩:=hp'
       obtain ⟨g,L,h1,h2,hAv⟩:=(hA ▸ ev A).rowp
       obtain ⟨L',us,k1,k2,k3,k4,k5,k6⟩:=H.ob _ _ hob
       rw [h1] at k1; injection k1 with k1; subst k1
       subst k3
       have hxi:xs[i]?=some (xs.getD i z):=by rw [List.getD_eq_getElem?_getD,List.getElem?_eq_getElem hi]; rfl
       obtain ⟨m1,m2⟩:=k5.elem hxi
       have hel:((us.drop (i * L.sz)).take L.sz).length=L.sz:=by rw [List.length_take,List.length_drop]; omega
       generalize hX:xs.getD i z=X0 at hq m1 hY
       have hXpure:Vl w S rho0 (s.ev (opd X)) (a.eval X):=by
        have hXv:=ev X
        cases hcase:s.ev (opd X) with
        | top=>exact Vl.top _
        | tup ys=>rw [hcase] at hpure; cases hpure
        | _ =>
         obtain ⟨ws,hw1,hw2⟩:=hXv.cs (by rw [hcase]; simp) (by rw [hcase]; simp)
         rw [← hcase]
         have:=pureB_ok (ρ' := rho0) 4 hw1 hpure
         exact Vl1.vl (.inr ⟨ws,this,hw2⟩)
       obtain ⟨vs,v1,v2,v3,v4,v5⟩:=wrP_ok (Css.single m1 hel) hq hp1 hXpure
       rw [hel] at v4
       have hul:=k5.len
       rw [psz_prs] at hul
       obtain ⟨r1,r2⟩:=k4
       rcases r2 with ⟨r2,r3,r4⟩ | ⟨g',cur,fr,r2,r3,r4,r5,r6,r7,r8⟩
       ·omega
       ·rw [h2] at r2; injection r2 with r2; injection r2 with r2; subst r2
        have hcur:us.length≤cur.size:=by rw [← r8,List.length_take]; simp; omega
        have hpos:i * L.sz+(o' + off)+rt.size≤us.length:=by omega
        have hrun:=run_storeVar_row (P:=P) ht (g:=g) (o:=i * L.sz+(o' + off)) r3 r4.out v1 v2 v3 (by omega)
        obtain ⟨s1,s2⟩:=setCells_row g e fr vs (i * L.sz+(o' + off)) w cur r3 (by omega)
        have hblk:(AObj.row e L.sz ver xs).blk ρ id' = some g:=by simp [AObj.blk,h1,ablk,h2]
        have hSg:¬ S g:=k6 g (by rw [h2]; rfl)
        have hE:Ext w (w.setCells g (i * L.sz+(o' + off)) vs) S S rho0 rho0:=⟨fun b hb=>s2.block b (H.slt b hb) (fun e=>by injection e with e; subst e; exact hSg hb),fun _ h=>h,fun _ _ _ h=>h⟩
        have hnl:(((us.drop (i * L.sz)).take L.sz).take (o' + off) ++ vs ++ ((us.drop (i * L.sz)).take L.sz).drop (o' + off+rt.size)).length=L.sz:=by
         simp only [List.length_append,List.length_take,List.length_drop,v2]; omega
        have hYc:=unparts_ok hY v5 hnl
        have hset:=Css.setElem hYc hnl xs us i k5 hi
        have hue:us.take (i * L.sz) ++ (((us.drop (i * L.sz)).take L.sz).take (o' + off) ++ vs ++ ((us.drop (i * L.sz)).take L.sz).drop (o' + off+rt.size)) ++ us.drop (i * L.sz+L.sz) =
          us.take (i * L.sz+(o' + off)) ++ vs ++ us.drop (i * L.sz+(o' + off)+rt.size):=by
         rw [List.take_take,Nat.min_eq_left (by omega)]
         rw [show us.take (i * L.sz+(o' + off))=us.take (i * L.sz) ++ (us.drop (i * L.sz)).take (o' + off) from List.take_add]
         have:((us.drop (i * L.sz)).take L.sz).drop (o' + off+rt.size) ++ us.drop (i * L.sz+L.sz)=us.drop (i * L.sz+(o' + off)+rt.size):=by
          rw [List.drop_take,List.drop_drop]
          have h5:us.drop (i * L.sz+L.sz)=(us.drop (i * L.sz+(o' + off+rt.size))).drop (L.sz - (o' + off+rt.size)):=by
           rw [List.drop_drop]; congr 1; omega
          rw [h5,List.take_append_drop]; congr 1; omega
         simp only [List.append_assoc,this]
        rw [hue] at hset
        obtain ⟨u1,u2⟩:=upd (o' := .row e L.sz ver (xs.set i Y)) (ρ' := ρ) hob (by rw [hblk]; exact s2) (fun _ _ _ h=>h) (fun _ _ _=>rfl)
         ⟨L,_,h1,by rw [List.length_set]; exact k2,rfl,⟨by
          simp only [List.length_append,List.length_take,List.length_drop,v2]; omega,.inr ⟨g,_,fr,h2,s1,r4.imp id fun h=>by simp [v2]; omega,r5,r6,by simp [v2]; omega,by
           have hn:L.n * L.sz=us.length:=r1.symm
           have hus:us=cur.toList.take us.length:=by rw [← hn]; exact r8.symm
           have:=take_splice cur.toList vs us.length (i * L.sz+(o' + off)) (by omega) (by simpa using hcur)
           rw [← hus,v2] at this
           rw [hn,List.toList_toArray,v2]; exact this⟩⟩,hset.ext hE,k6⟩ (fun v hv=>H.vers _ _ hob v hv) (fun b hb=>.inl (by simpa [AObj.blk] using hb))
        exact ⟨undef,_,ρ,.inr ⟨fin hAv hrun,rfl⟩,Vl.top _,u1,u2⟩
      ·cases h
     ·cases h
    ·cases h
   ·cases h
  ·cases h
 case mput ks m' x' v' =>
  obtain ⟨t,k,e,M,X,V,ho,ht,K,rfl,rfl,rfl⟩:∃ t k e M X V,o.op=.mapUpdate t M X V∧P.underlying t=some (.map k e)∧KeyOk P k ks∧m' = opd M∧x' = opd X∧v' = opd V:=by
   rcases hm with hm | ⟨t,A,X,rt',e,h1,h2⟩
   ·exact hm
   ·cases e
  split at h
  ·rename_i id' hM
   split at h
   ·rename_i ks' es q p' hob hk
    split at h
    ·rename_i hc
     obtain ⟨rfl,hreal⟩:=hc
     injection h with e; injection e with e1 e2; injection e2 with e2 e3; injection e3 with e3 e4; subst e1 e2 e3 e4
     obtain ⟨g,L,h1,h2,hMv⟩:=(hM ▸ ev M).mpv
     obtain ⟨g',arr,clock,k1,k2,k3,k4,k5⟩:=H.ob _ _ hob
     rw [h1] at k1; injection k1 with k1; subst k1
     injection h2 with h2; injection h2 with h2; subst h2
     obtain ⟨hq,hXv⟩:=mkOf_ok hk hp' (ev X)
     obtain ⟨us,hc,hV⟩:=(ev V).cs (by intro e; rw [e] at hreal; cases hreal) (by intro xs e; rw [e] at hreal; cases hreal)
     have hblk:(AObj.mp ks' es).blk ρ id' = some g' := by simp [AObj.blk,h1,ablk]
     have fin:∀ (w' : World) (arr' : Array MapEntry) (clock' : Nat),(Instr.mapUpdate t (.map (some g')) q.val (a.eval V)).run P w=.ok () w' → w' = { w with heap:=w.heap.set! g' (.map arr' clock') }→MapOk w S ρ ks' (putM es q (s.ev (opd V))) arr'.toList→MapKept.Stamped arr' clock' →
       ∃ q' w' ρ',((execOp a.eval o).run P w=.ok (.value q') w' ∨ ((execOp a.eval o).run P w=.ok .skip w' ∧ q' = undef))∧Vl w' S ρ' .top q' ∧ HeapOk F w0 S ρ' (s.hp.set id' (.mp ks' (putM es q (s.ev (opd V))))) w' ∧ Ext w w' S S ρ ρ' := by
      intro w' arr' clock' hrun hw' hmo hst
      have hg:w.grownBy w' (some g'):=by
       subst hw'
       exact ⟨rfl,rfl,rfl,by simp,fun i _ hi=>by
        show (w.heap.setIfInBounds g' _)[i]?=_
        rw [Array.getElem?_setIfInBounds_ne (fun e=>hi (by rw [e]))]⟩
      have hnew:w'.heap[g']?=some (.map arr' clock'):=by
       subst hw'
       have:=(Array.getElem?_eq_some_iff.1 k2).1
       simp [this]
      have hE:Ext w w' S S ρ ρ:=⟨fun b hb=>hg.block b (H.slt b hb) (fun e=>by injection e with e; subst e; exact k5 hb),fun _ h=>h,fun _ _ _ h=>h⟩
      obtain ⟨u1,u2⟩:=upd (o' := .mp ks' (putM es q (s.ev (opd V)))) (ρ' := ρ) hob (by rw [hblk]; exact hg) (fun _ _ _ h=>h) (fun _ _ _=>rfl)
       ⟨g',arr',clock',h1,hnew,hmo.ext hE,hst,k5⟩ (fun v hv=>H.vers _ _ hob v hv) (fun b hb=>.inl (by simpa [AObj.blk] using hb))
      refine ⟨undef,w',ρ,.inr ⟨?_,rfl⟩,Vl.top _,u1,u2⟩
      simp only [execOp,ho,hMv,hXv,Sem.run_bind,hrun,Result.andThen_ok]; rfl
     rcases K.find w q hq arr.toList k3.keys with ⟨f1,f2⟩ | ⟨j,en,f1,f2,f3⟩
     ·refine fin _ (arr.push { key:=q.val,val:=a.eval V,born:=clock }) (clock+1) ?_ rfl (by rw [Array.toList_push]; exact k3.push hq hc hV f2) (MapKept.stamped_push k4 f2)
      simp [Instr.mapUpdate,run_underlying ht,MapKept.run_getObj_map k2,K.check w _ q hq,f1,MapKept.run_setObj_map _ k2]
     ·have hj:arr[j]?=some en:=by rw [← Array.getElem?_toList]; exact f2
      refine fin _ (arr.modify j fun e=>{ e with key:=q.val,val:=a.eval V }) clock ?_ rfl (by rw [Array.toList_modify]; exact k3.modify hq hc hV k4.2.2 f2 f3) (MapKept.stamped_modify k4 _ _ (fun _ _=>rfl) (fun e' _ he' => by rw [hj] at he'; injection he' with he'; subst he'; exact f3.symm))
      simp [Instr.mapUpdate,run_underlying ht,MapKept.run_getObj_map k2,K.check w _ q hq,f1,hj,f3,K.stays w q hq,MapKept.run_setObj_map _ k2]
    ·cases h
   ·cases h
  ·cases h
 case app e sz bytes x' y' =>
  obtain ⟨t,X,Y,ho,hT,rfl,rfl⟩:∃ t X Y,o.op=.call { callee:=.builtin .append,args:=#[X,Y],argTypes:=#[t,t] }∧SlOk P t e sz bytes∧x' = opd X∧y' = opd Y:=by
   rcases hm with hm | ⟨t,A,X,rt',e,h1,h2⟩
   ·exact hm
   ·cases e
  obtain ⟨i,z,i1,i2,i3,i4,i5⟩:=hT.parts
  subst i4 i5
  have key:∀ {id ver:Nat} {xs ys zs:List AV} {L:Lc} {us:List Value} {n:Nat},s.hp[id]?=some (.row e i.size ver xs)→view s.hp i.size (s.ev (opd Y))=some ys→ρ id ver=some L→L.n=xs.length→L.sz=i.size→Rw w e L us→Css w S rho0 (prs i.size xs) us→(∀ g,ablk L.A=some g→¬ S g) →
    n≤xs.length→zs=xs.take n→a.eval X=.slice L.A n L.c→(zs ++ ys).length≤9223372036854775807→(zs ++ ys).length * i.bytes≤140737488355328 →
    ∃ q w' ρ',((execOp a.eval o).run P w=.ok (.value q) w' ∨ ((execOp a.eval o).run P w=.ok .skip w' ∧ q=undef))∧Vl w' S ρ' (.own id (ver+1)) q∧HeapOk F w0 S ρ' (s.hp.set id (.row e i.size (ver+1) (zs ++ ys))) w' ∧ Ext w w' S S ρ ρ' := by
   intro id ver xs ys zs L us n hob hy hL hn hsz hrw hc hSg hnx hzs hX hlen hby
   obtain ⟨A2,m,c2,vs,hY,hM⟩:=view_ok H.obs hy (ev Y)
   have hzl:zs.length=n:=by rw [hzs,List.length_take]; omega
   have hul:=hc.len
   rw [psz_prs] at hul
   have hrw0:Rw w e ⟨L.A,L.c,n,L.sz⟩ (us.take (n * i.size)):=by
    obtain ⟨r1,r2⟩:=hrw
    have hle:n * i.size≤us.length:=by rw [hul]; exact Nat.mul_le_mul_right _ hnx
    refine ⟨by simp only [List.length_take,hsz]; omega,?_⟩
    rcases r2 with ⟨r2,r3,r4⟩ | ⟨g,cur,fr,r2,r3,r4,r5,r6,r7,r8⟩
    ·exact .inl ⟨r2,by simp only; omega,r4⟩
    ·refine .inr ⟨g,cur,fr,r2,r3,r4,by simp only; omega,r6,r7,?_⟩
     simp only [hsz]
     rw [← r8,List.take_take,hsz,Nat.min_eq_left (by rw [hn]; exact Nat.mul_le_mul_right _ hnx)]
   have hcz:Css w S rho0 (prs i.size zs) (us.take (n * i.size)):=by
    have:=hc.cut (i:=0) (j:=n) (Nat.zero_le _) hnx
    simpa [hzs] using this
   have hlm:n+m=(zs ++ ys).length:=by rw [List.length_append,hzl,hM.len]
   obtain ⟨L',w',r1,r2,r3,r4,r5,r6⟩:=run_append_rw (P:=P) (ty:=o.type) hT.under i1 i2 i3 (L:=⟨L.A,L.c,n,L.sz⟩) hsz hrw0 (A2:=A2) (m:=m) (c2:=c2) (vs:=vs) (by rw [hM.ulen,← hM.len]) hM.css.cs.one hM.cell hT.pos (by simp only; omega) (by simp only; rw [hlm]; exact hby)
   simp only at r1 r3 r5 r6
   have hblk:(AObj.row e i.size ver xs).blk ρ id=ablk L.A:=by simp [AObj.blk,hL]
   have hfresh:ρ id (ver+1)=none:=H.vers id _ hob (ver+1) (Nat.lt_succ_self _)
   have hmono:∀ j v K,ρ j v=some K→rset ρ id (ver+1) L' j v=some K:=by
    intro j v K hk
    rw [rset_ne]
    ·exact hk
    ·rintro ⟨rfl,rfl⟩; rw [hfresh] at hk; cases hk
   have hE0:Ext w w' S S rho0 rho0:=⟨fun b hb=>r5.block b (H.slt b hb) (fun e=>hSg b e.symm hb),fun _ h=>h,fun _ _ _ h=>h⟩
   obtain ⟨u1,u2⟩:=upd (o' := .row e i.size (ver+1) (zs ++ ys)) (ρ' := rset ρ id (ver+1) L') hob (by rw [hblk]; exact r5) hmono (fun j v hj=>rset_ne _ _ _ _ (fun e=>hj e.1))
    ⟨L',_,rset_self _ _ _ _,by rw [r3,hlm],r4,r2,by rw [prs_append]; exact (hcz.append hM.css).ext hE0,fun g hg hs=>by
     rcases r6 with h6 | h6
     ·rw [h6] at hg; exact hSg g hg hs
     ·rw [h6] at hg; injection hg with hg; have:=H.slt g hs; omega⟩
    (fun v hv=>by
     simp only [AObj.ver] at hv
     rw [rset_ne _ _ _ _ (fun e=>by omega)]
     exact H.vers id _ hob v (by simp only [AObj.ver]; omega))
    (fun b hb=>by
     simp only [AObj.blk,rset_self,Option.bind_some] at hb
     rcases r6 with h6 | h6
     ·left; rw [hblk,← h6]; exact hb
     ·right; rw [h6] at hb; injection hb with hb; omega)
   refine ⟨.slice L'.A L'.n L'.c,w',_,.inl ?_,.inr ⟨_,.own id (ver+1) L' (rset_self _ _ _ _),rfl⟩,u1,u2⟩
   simp only [execOp,ho,resolve,Sem.run_bind,Sem.run_pure,Result.andThen_ok,invoke,builtin,List.map_toArray,List.map_cons,List.map_nil,hX,hY,r1]
  split at h
  ·rename_i id' ver hX
   split at h
   ·rename_i e' s' v' xs ys hob hy
    split at h
    ·rename_i hc
     obtain ⟨rfl,rfl,rfl⟩:=hc
     injection h with h; injection h with e1 e2; injection e2 with e2 e3; injection e3 with e3 e4; subst e1 e2 e3 e4
     obtain ⟨L,hL,hv⟩:=(hX ▸ ev X).own
     obtain ⟨L',us,k1,k2,k3,k4,k5,k6⟩:=H.ob _ _ hob
     rw [hL] at k1; injection k1 with k1; subst k1
     exact key hob hy hL k2 k3 k4 k5 k6 (Nat.le_of_eq k2) (by rw [k2,List.take_length]) hv hp'.1 hp'.2
    ·cases h
   ·cases h
  ·rename_i id' ver m hX
   split at h
   ·rename_i e' s' v' xs ys hob hy
    split at h
    ·rename_i hc
     obtain ⟨rfl,rfl,rfl⟩:=hc
     injection h with h; injection h with e1 e2; injection e2 with e2 e3; injection e3 with e3 e4; subst e1 e2 e3 e4
     obtain ⟨L,A0,hL,hm',hA,hv⟩:=(hX ▸ ev X).ownv
     obtain ⟨L',us,k1,k2,k3,k4,k5,k6⟩:=H.ob _ _ hob
     rw [hL] at k1; injection k1 with k1; subst k1
     rw [hA (.inr rfl),cutA_zero,Nat.sub_zero] at hv
     exact key hob hy hL k2 k3 k4 k5 k6 hp'.1 rfl hv hp'.2.1 hp'.2.2
    ·cases h
   ·cases h
  ·cases h
 case appS e x' y' =>
  obtain ⟨t,u0,i,X,Y,ho,h1,h2,h3,h4,h5,h6,rfl,rfl⟩:∃ t u i X Y,o.op=.call { callee:=.builtin .append,args:=#[X,Y],argTypes:=#[t,u] }∧P.underlying t=some (.slice e)∧P.underlying u=some .string∧P.info? e=some i∧i.zero=some (.int .u8 0)∧i.size=1∧i.bytes=1∧x' = opd X∧y' = opd Y:=by
   rcases hm with hm | ⟨t,A,X,rt',e,h1,h2⟩
   ·exact hm
   ·cases e
  have key:∀ {id ver:Nat} {xs zs:List AV} {l:List UInt8} {L:Lc} {us:List Value} {n:Nat},s.hp[id]?=some (.row e i.size ver xs)→s.ev (opd Y)=.str l→ρ id ver=some L→L.n=xs.length→L.sz=i.size→Rw w e L us→Css w S rho0 (prs i.size xs) us→(∀ g,ablk L.A=some g→¬ S g) →
    n≤xs.length→zs=xs.take n→a.eval X=.slice L.A n L.c→(zs ++ Bs l).length≤9223372036854775807→(zs ++ Bs l).length≤140737488355328 →
    ∃ q w' ρ',((execOp a.eval o).run P w=.ok (.value q) w' ∨ ((execOp a.eval o).run P w=.ok .skip w' ∧ q=undef))∧Vl w' S ρ' (.own id (ver+1)) q∧HeapOk F w0 S ρ' (s.hp.set id (.row e i.size (ver+1) (zs ++ Bs l))) w' ∧ Ext w w' S S ρ ρ' := by
   intro id ver xs zs l L us n hob hy hL hn hsz hrw hc hSg hnx hzs hX hlen hby
   have hY:=(hy ▸ ev Y).str
   have hzl:zs.length=n:=by rw [hzs,List.length_take]; omega
   have hul:=hc.len
   rw [psz_prs] at hul
   have hrw0:Rw w e ⟨L.A,L.c,n,L.sz⟩ (us.take (n * i.size)):=by
    obtain ⟨r1,r2⟩:=hrw
    have hle:n * i.size≤us.length:=by rw [hul]; exact Nat.mul_le_mul_right _ hnx
    refine ⟨by simp only [List.length_take,hsz]; omega,?_⟩
    rcases r2 with ⟨r2,r3,r4⟩ | ⟨g,cur,fr,r2,r3,r4,r5,r6,r7,r8⟩
    ·exact .inl ⟨r2,by simp only; omega,r4⟩
    ·refine .inr ⟨g,cur,fr,r2,r3,r4,by simp only; omega,r6,r7,?_⟩
     simp only [hsz]
     rw [← r8,List.take_take,hsz,Nat.min_eq_left (by rw [hn]; exact Nat.mul_le_mul_right _ hnx)]
   have hcz:Css w S rho0 (prs i.size zs) (us.take (n * i.size)):=by
    have:=hc.cut (i:=0) (j:=n) (Nat.zero_le _) hnx
    simpa [hzs] using this
   have hlm:n+l.length=(zs ++ Bs l).length:=by rw [List.length_append,hzl]; simp [Bs]
   obtain ⟨L',w',r1,r2,r3,r4,r5,r6⟩:=run_append_rwS (P:=P) (ty:=o.type) h1 h2 h3 h4 h5 (L:=⟨L.A,L.c,n,L.sz⟩) (by simp only; rw [hsz,h5]) hrw0 l (by simp only; omega) (by rw [h6]; simp only; rw [hlm,Nat.mul_one]; exact hby)
   simp only at r1 r3 r5 r6
   have hblk:(AObj.row e i.size ver xs).blk ρ id=ablk L.A:=by simp [AObj.blk,hL]
   have hfresh:ρ id (ver+1)=none:=H.vers id _ hob (ver+1) (Nat.lt_succ_self _)
   have hmono:∀ j v K,ρ j v=some K→rset ρ id (ver+1) L' j v=some K:=by
    intro j v K hk
    rw [rset_ne]
    ·exact hk
    ·rintro ⟨rfl,rfl⟩; rw [hfresh] at hk; cases hk
   have hE0:Ext w w' S S rho0 rho0:=⟨fun b hb=>r5.block b (H.slt b hb) (fun e=>hSg b e.symm hb),fun _ h=>h,fun _ _ _ h=>h⟩
   obtain ⟨u1,u2⟩:=upd (o' := .row e i.size (ver+1) (zs ++ Bs l)) (ρ' := rset ρ id (ver+1) L') hob (by rw [hblk]; exact r5) hmono (fun j v hj=>rset_ne _ _ _ _ (fun e=>hj e.1))
    ⟨L',_,rset_self _ _ _ _,by rw [r3,hlm],by rw [r4,h5],r2,by rw [prs_append]; exact (hcz.append (by rw [h5]; exact css_bytes l)).ext hE0,fun g hg hs=>by
     rcases r6 with h6 | h6
     ·rw [h6] at hg; exact hSg g hg hs
     ·rw [h6] at hg; injection hg with hg; have:=H.slt g hs; omega⟩
    (fun v hv=>by
     simp only [AObj.ver] at hv
     rw [rset_ne _ _ _ _ (fun e=>by omega)]
     exact H.vers id _ hob v (by simp only [AObj.ver]; omega))
    (fun b hb=>by
     simp only [AObj.blk,rset_self,Option.bind_some] at hb
     rcases r6 with h6 | h6
     ·left; rw [hblk,← h6]; exact hb
     ·right; rw [h6] at hb; injection hb with hb; omega)
   refine ⟨.slice L'.A L'.n L'.c,w',_,.inl ?_,.inr ⟨_,.own id (ver+1) L' (rset_self _ _ _ _),rfl⟩,u1,u2⟩
   simp only [execOp,ho,resolve,Sem.run_bind,Sem.run_pure,Result.andThen_ok,invoke,builtin,List.map_toArray,List.map_cons,List.map_nil,hX,hY,r1]
  split at h
  ·rename_i id' ver l hX hy
   split at h
   ·rename_i e' s' v' xs hob
    split at h
    ·rename_i hc
     obtain ⟨rfl,rfl,rfl⟩:=hc
     injection h with h; injection h with e1 e2; injection e2 with e2 e3; injection e3 with e3 e4; subst e1 e2 e3 e4
     obtain ⟨L,hL,hv⟩:=(hX ▸ ev X).own
     obtain ⟨L',us,k1,k2,k3,k4,k5,k6⟩:=H.ob _ _ hob
     rw [hL] at k1; injection k1 with k1; subst k1
     have hk:=key (by rw [h5]; exact hob) hy hL k2 (by rw [h5]; exact k3) k4 (by rw [h5]; exact k5) k6 (Nat.le_of_eq k2) (by rw [k2,List.take_length]) hv hp'.1 hp'.2
     rw [h5] at hk; exact hk
    ·cases h
   ·cases h
  ·rename_i id' ver m l hX hy
   split at h
   ·rename_i e' s' v' xs hob
    split at h
    ·rename_i hc
     obtain ⟨rfl,rfl,rfl⟩:=hc
     injection h with h; injection h with e1 e2; injection e2 with e2 e3; injection e3 with e3 e4; subst e1 e2 e3 e4
     obtain ⟨L,A0,hL,hm',hA,hv⟩:=(hX ▸ ev X).ownv
     obtain ⟨L',us,k1,k2,k3,k4,k5,k6⟩:=H.ob _ _ hob
     rw [hL] at k1; injection k1 with k1; subst k1
     rw [hA (.inr rfl),cutA_zero,Nat.sub_zero] at hv
     have hk:=key (by rw [h5]; exact hob) hy hL k2 (by rw [h5]; exact k3) k4 (by rw [h5]; exact k5) k6 hp'.1 rfl hv hp'.2.1 hp'.2.2
     rw [h5] at hk; exact hk
    ·cases h
   ·cases h
  ·cases h
 case mark x' =>
  obtain ⟨t,e0,X,ho,h1,h2,rfl⟩:∃ t e X,o.op=.convert t t X∧P.underlying t=some (.slice e)∧P.underlying e=some (.int .u8)∧x' = opd X:=by
   rcases hm with hm | ⟨t,A,X,rt',e,h1,h2⟩
   ·exact hm
   ·cases e
  split at h
  ·rename_i id' ver hX
   split at h
   ·rename_i e sz v' xs hob
    split at h
    ·rename_i hc
     subst hc
     injection h with h; injection h with e1 e2; injection e2 with e2 e3; injection e3 with e3 e4; subst e1 e2 e3 e4
     obtain ⟨L,hL,hv⟩:=(hX ▸ ev X).own
     obtain ⟨L',us,k1,k2,k3,k4,k5,k6⟩:=H.ob _ _ hob
     rw [hL] at k1; injection k1 with k1; subst k1
     obtain ⟨r1,r2⟩:=k4
     rcases r2 with ⟨_,r3,_⟩ | ⟨g,cur,fr,r2,r3,r4,r5,r6,r7,r8⟩
     ·omega
     ·obtain ⟨fr',hfr',hfz⟩:∃ fr',Mk fr' cur.size∧(w.freeze ⟨g,cur.size,none⟩ 1).heap=w.heap.modify g fun o=>if o matches .cells _ _ _ then .cells cur e fr' else o:=by
       obtain ⟨lo,hi⟩:=fr
       refine ⟨if lo == hi then (cur.size,cur.size+1) else (min lo cur.size,max hi (cur.size+1)),?_,?_⟩
       ·split
        ·exact .inr (Nat.le_refl _)
        ·rename_i hne
         rcases r4 with h | h
         ·exact absurd h (by simpa using hne)
         ·exact .inr (by simp only at h ⊢; omega)
       ·have hg:=(Array.getElem?_eq_some_iff.1 r3)
        obtain ⟨hg1,hg2⟩:=hg
        unfold World.freeze
        rw [if_neg (by decide)]
        simp only
        apply Array.ext
        ·simp
        ·intro i h1 h2
         simp only [Array.getElem_modify]
         by_cases hgi:g=i
         ·subst hgi; simp only [if_true,hg2]
         ·simp only [if_neg hgi]
      have hgb:w.grownBy (w.freeze ⟨g,cur.size,none⟩ 1) (some g):=by
       refine ⟨by unfold World.freeze; rw [if_neg (by decide)],by unfold World.freeze; rw [if_neg (by decide)],by unfold World.freeze; rw [if_neg (by decide)],by rw [hfz]; simp,fun k hk hne=>?_⟩
       rw [hfz,Array.getElem?_modify,if_neg (fun e=>hne (by rw [e]))]
      have hw' : (w.freeze ⟨g,cur.size,none⟩ 1).heap[g]?=some (.cells cur e fr'):=by
       rw [hfz,Array.getElem?_modify,if_pos rfl,r3]; rfl
      have hblk:(AObj.row e sz ver xs).blk ρ id' = some g:=by simp [AObj.blk,hL,ablk,r2]
      have hSg:¬ S g:=k6 g (by rw [r2]; rfl)
      have hE0:Ext w (w.freeze ⟨g,cur.size,none⟩ 1) S S rho0 rho0:=⟨fun b hb=>hgb.block b (H.slt b hb) (fun e=>by injection e with e; subst e; exact hSg hb),fun _ h=>h,fun _ _ _ h=>h⟩
      obtain ⟨u1,u2⟩:=upd (o' := .row e sz ver xs) (ρ' := ρ) hob (by rw [hblk]; exact hgb) (fun _ _ _ h=>h) (fun _ _ _=>rfl)
       ⟨L,us,hL,k2,k3,⟨r1,.inr ⟨g,cur,fr',r2,hw',hfr',r5,r6,r7,r8⟩⟩,k5.ext hE0,k6⟩ (fun v hv=>H.vers _ _ hob v hv) (fun b hb=>.inl hb)
      refine ⟨.slice L.A L.n L.c,_,ρ,.inl ?_,.inr ⟨_,.own id' ver L hL,rfl⟩,u1,u2⟩
      have hsh:w.shape? g=some (e,cur.size):=by unfold World.shape?; rw [r3]
      simp [execOp,ho,hv,r2,convert,run_underlying h1,run_underlying h2,markStringish,hsh]
    ·cases h
   ·cases h
  ·cases h
end
end Go.Proofs.YtakolikdebfkeaaDoor
namespace Go.Proofs.YtakolikdebfkeaaDoor
open Go.RowKit
def mapO {α β:Type} (f:α→Option β):List α→Option (List β)
 | []=>some []
 | a :: r=>match f a,mapO f r with
  | some b,some bs=>some (b :: bs)
  | _,_=>none
theorem mapO_get {α β:Type} {f:α→Option β}:∀ {l:List α} {m:List β},mapO f l=some m→m.length=l.length∧∀ (i:Nat) (x:α),l[i]?=some x→∃ y,m[i]?=some y∧f x=some y:=by
 intro l
 induction l with
 | nil=>intro m h; simp only [mapO,Option.some.injEq] at h; subst h; exact ⟨rfl,fun i x hx=>by simp at hx⟩
 | cons a l ih =>
  intro m h
  simp only [mapO] at h
  split at h
  ·rename_i b bs hb hbs
   injection h with h; subst h
   obtain ⟨h1,h2⟩:=ih hbs
   refine ⟨by simp [h1],fun i x hx=>?_⟩
   cases i with
   | zero=>simp only [List.getElem?_cons_zero,Option.some.injEq] at hx; subst hx; exact ⟨b,rfl,hb⟩
   | succ i=>simpa using h2 i x (by simpa using hx)
  ·cases h
def ren (σ:Nat→Option Nat):Nat→AV→Option AV
 | 0,_=>none
 | d+1,x=>match x with
  | .own id v=>(σ id).map fun j=>.own j v
  | .ownv id v i m=>(σ id).map fun j=>.ownv j v i m
  | .ref id o off=>(σ id).map fun j=>.ref j o off
  | .rowp id v i z o off=>(σ id).map fun j=>.rowp j v i z o off
  | .agg ps=>(mapO (fun p=>(ren σ d p.2).map fun y=>(p.1,y)) ps).map .agg
  | .tup xs=>(mapO (ren σ d) xs).map .tup
  | .fn f a c=>match mapO (ren σ d) a,mapO (ren σ d) c with
   | some a',some c' => some (.fn f a' c')
   | _,_=>none
  | .iface t x=>(ren σ d x).map (.iface t)
  | .mpv id=>(σ id).map .mpv
  | .arv id o n lo m=>(σ id).map fun j=>.arv j o n lo m
  | .arw id v i z o n lo m=>(σ id).map fun j=>.arw j v i z o n lo m
  | x=>some x
def flatB:Nat→AV→Bool
 | 0,_=>false
 | d+1,x=>match x with
  | .sl _ xs=>xs.isEmpty
  | .ptr _ _ _ _=>false
  | .agg ps=>ps.all fun p=>flatB d p.2
  | .tup xs=>xs.all (flatB d)
  | .fn _ a c=>a.all (flatB d) && c.all (flatB d)
  | .iface _ x=>flatB d x
  | _=>true
section
variable {w : World} {S S' : Nat → Prop} {ρ ρ' : Rho}
theorem ren_cs {σ:Nat→Option Nat} (hσ:∀ i j,σ i=some j→∀ v L,ρ i v=some L→ρ' j v=some L):∀ (d:Nat) {x y:AV} {us:List Value},ren σ d x=some y→Cs w S ρ x us→Cs w S ρ' y us∧y.multi=x.multi∧(∀ xs,x=.tup xs→False):=by
 intro d
 induction d with
 | zero=>intro x y us h; cases h
 | succ d ih =>
  intro x y us h hc
  cases hc <;> simp only [ren] at h
  case top h1=>injection h with h; subst h; exact ⟨.top _ h1,rfl,fun _ e=>by cases e⟩
  case int=>injection h with h; subst h; exact ⟨.int _ _,rfl,fun _ e=>by cases e⟩
  case bool=>injection h with h; subst h; exact ⟨.bool _,rfl,fun _ e=>by cases e⟩
  case str=>injection h with h; subst h; exact ⟨.str _,rfl,fun _ e=>by cases e⟩
  case con h1=>injection h with h; subst h; exact ⟨.con _ h1,rfl,fun _ e=>by cases e⟩
  case blob h1=>injection h with h; subst h; exact ⟨.blob _ h1,rfl,fun _ e=>by cases e⟩
  case sl0 h1=>injection h with h; subst h; exact ⟨.sl0 _ _ _ h1,rfl,fun _ e=>by cases e⟩
  case sl h1 h2 h3 h4 h5 h6=>injection h with h; subst h; exact ⟨.sl _ _ _ _ _ _ h1 h2 h3 h4 h5 h6,rfl,fun _ e=>by cases e⟩
  case ptr h1 h2 h3 h4=>injection h with h; subst h; exact ⟨.ptr _ _ _ _ _ _ _ h1 h2 h3 h4,rfl,fun _ e=>by cases e⟩
  case agg ps uss h1 h2 h3 =>
   obtain ⟨qs,hq,rfl⟩:=Option.map_eq_some_iff.1 h
   obtain ⟨k1,k2⟩:=mapO_get hq
   refine ⟨.agg qs uss (by omega) (fun i hi=>?_) (fun i hi=>?_),rfl,fun _ e=>by cases e⟩
   ·obtain ⟨y,y1,y2⟩:=k2 i _ (List.getElem?_eq_getElem (by omega))
    obtain ⟨z,z1,z2⟩:=Option.map_eq_some_iff.1 y2
    have:=h2 i (by omega)
    rw [List.getD_eq_getElem?_getD,List.getD_eq_getElem?_getD,List.getElem?_eq_getElem (show i<ps.length by omega)] at this
    rw [List.getD_eq_getElem?_getD,List.getD_eq_getElem?_getD,y1,← z2]
    exact this
   ·obtain ⟨y,y1,y2⟩:=k2 i _ (List.getElem?_eq_getElem (by omega))
    obtain ⟨z,z1,z2⟩:=Option.map_eq_some_iff.1 y2
    have:=h3 i (by omega)
    rw [List.getD_eq_getElem?_getD (l:=ps),List.getElem?_eq_getElem (show i<ps.length by omega)] at this
    rw [List.getD_eq_getElem?_getD (l:=qs),y1,← z2]
    exact (ih z1 this).1
  case own=>rename_i h1; obtain ⟨j,hj,rfl⟩:=Option.map_eq_some_iff.1 h; exact ⟨.own j _ _ (hσ _ _ hj _ _ (by assumption)),rfl,fun _ e=>by cases e⟩
  case ownv=>rename_i h1 h2 h3; obtain ⟨j,hj,rfl⟩:=Option.map_eq_some_iff.1 h; exact ⟨.ownv j _ _ _ _ _ (hσ _ _ hj _ _ (by assumption)) (by assumption) (by assumption),rfl,fun _ e=>by cases e⟩
  case ref=>rename_i h1 h2; obtain ⟨j,hj,rfl⟩:=Option.map_eq_some_iff.1 h; exact ⟨.ref j _ _ _ _ (hσ _ _ hj _ _ (by assumption)) (by assumption),rfl,fun _ e=>by cases e⟩
  case rowp=>rename_i h1 h2; obtain ⟨j,hj,rfl⟩:=Option.map_eq_some_iff.1 h; exact ⟨.rowp j _ _ _ _ _ _ _ (hσ _ _ hj _ _ (by assumption)) (by assumption),rfl,fun _ e=>by cases e⟩
  case fn f first cap us vs h1 h2 h3 h4 =>
   split at h
   ·rename_i a' c' ha hc
    injection h with h; subst h
    obtain ⟨k1,k2⟩:=mapO_get ha
    obtain ⟨m1,m2⟩:=mapO_get hc
    refine ⟨.fn f a' c' us vs (by omega) (by omega) (fun i hi=>?_) (fun i hi=>?_),rfl,fun _ e=>by cases e⟩
    ·obtain ⟨y,y1,y2⟩:=k2 i _ (List.getElem?_eq_getElem (by omega))
     have:=h3 i (by omega)
     rw [List.getD_eq_getElem?_getD (l:=first),List.getElem?_eq_getElem (show i<first.length by omega)] at this
     rw [List.getD_eq_getElem?_getD (l:=a'),y1]
     exact (ih y2 this).1
    ·obtain ⟨y,y1,y2⟩:=m2 i _ (List.getElem?_eq_getElem (by omega))
     have:=h4 i (by omega)
     rw [List.getD_eq_getElem?_getD (l:=cap),List.getElem?_eq_getElem (show i<cap.length by omega)] at this
     rw [List.getD_eq_getElem?_getD (l:=c'),y1]
     exact (ih y2 this).1
   ·cases h
  case iface t x us h1 =>
   obtain ⟨z,hz,rfl⟩:=Option.map_eq_some_iff.1 h
   obtain ⟨k1,k2,k3⟩:=ih hz h1
   refine ⟨?_,rfl,fun _ e=>by cases e⟩
   have:wrapv x us=wrapv z us:=by unfold wrapv; rw [k2]
   rw [this]
   exact .iface t z us k1
  case mpv=>rename_i h1 h2; obtain ⟨j,hj,rfl⟩:=Option.map_eq_some_iff.1 h; exact ⟨.mpv j _ _ (hσ _ _ hj _ _ (by assumption)) (by assumption),rfl,fun _ e=>by cases e⟩
  case arv=>obtain ⟨j,hj,rfl⟩:=Option.map_eq_some_iff.1 h; exact ⟨.arv j _ _ _ _ _ _ (hσ _ _ hj _ _ (by assumption)) (by assumption) (by assumption) (by assumption),rfl,fun _ e=>by cases e⟩
  case arw=>obtain ⟨j,hj,rfl⟩:=Option.map_eq_some_iff.1 h; exact ⟨.arw j _ _ _ _ _ _ _ _ _ (hσ _ _ hj _ _ (by assumption)) (by assumption) (by assumption) (by assumption) (by assumption),rfl,fun _ e=>by cases e⟩
theorem ren_vl {σ:Nat→Option Nat} (hσ:∀ i j,σ i=some j→∀ v L,ρ i v=some L→ρ' j v=some L) {d:Nat} {x y:AV} {v:Value} (h:ren σ d x=some y) (hv:Vl w S ρ x v):Vl w S ρ' y v:=by
 cases d with
 | zero=>cases h
 | succ d =>
  have one:∀ {d:Nat} {x y:AV} {v:Value},ren σ d x=some y→Vl1 w S ρ x v→Vl1 w S ρ' y v:=by
   intro d x y v h hv
   rcases hv with rfl | ⟨us,hc,rfl⟩
   ·cases d with
    | zero=>cases h
    | succ d=>simp only [ren,Option.some.injEq] at h; subst h; exact .inl rfl
   ·obtain ⟨k1,k2,_⟩:=ren_cs hσ d h hc
    exact .inr ⟨us,k1,by unfold wrapv; rw [k2]⟩
  cases x
  case tup xs =>
   simp only [ren] at h
   obtain ⟨ys,hy,rfl⟩:=Option.map_eq_some_iff.1 h
   obtain ⟨vs,e,h2,h3⟩:=hv
   obtain ⟨k1,k2⟩:=mapO_get hy
   refine ⟨vs,e,by omega,fun i hi=>?_⟩
   obtain ⟨y,y1,y2⟩:=k2 i _ (List.getElem?_eq_getElem (by omega))
   have:=h3 i (by omega)
   rw [List.getD_eq_getElem?_getD (l:=xs),List.getElem?_eq_getElem (show i<xs.length by omega)] at this
   rw [List.getD_eq_getElem?_getD (l:=ys),y1]
   exact one y2 this
  all_goals exact (one h hv).vl
theorem flat_cs:∀ (d:Nat) {x:AV} {us:List Value},flatB d x=true→Cs w S ρ x us→Cs w S' ρ x us:=by
 intro d
 induction d with
 | zero=>intro x us h; cases h
 | succ d ih =>
  intro x us h hc
  cases hc with
  | top us h1=>exact .top us h1
  | int k n=>exact .int k n
  | bool b=>exact .bool b
  | str l=>exact .str l
  | con x h1=>exact .con x h1
  | blob _ h1=>exact .blob _ h1
  | agg ps uss h1 h2 h3 =>
   simp only [flatB,List.all_eq_true] at h
   refine .agg ps uss h1 h2 fun i hi=>ih (h _ ?_) (h3 i hi)
   rw [List.getD_eq_getElem?_getD,List.getElem?_eq_getElem hi]
   exact List.getElem_mem hi
  | sl0 sz A c h1=>exact .sl0 sz A c h1
  | sl sz xs us b o c h1 h2 h3 h4 h5 h6 =>
   obtain rfl:=List.isEmpty_iff.1 (show xs.isEmpty=true from h)
   exact .sl0 sz _ c h6
  | ptr=>cases h
  | own id ver L h1=>exact .own id ver L h1
  | ownv id ver i m L A h1 h2 h3=>exact .ownv id ver i m L A h1 h2 h3
  | ref id o off g L h1 h2=>exact .ref id o off g L h1 h2
  | rowp id ver i z o off g L h1 h2=>exact .rowp id ver i z o off g L h1 h2
  | fn f first cap us vs h1 h2 h3 h4 =>
   simp only [flatB,Bool.and_eq_true,List.all_eq_true] at h
   refine .fn f first cap us vs h1 h2 (fun i hi=>ih (h.1 _ ?_) (h3 i hi)) (fun i hi=>ih (h.2 _ ?_) (h4 i hi))
   ·rw [List.getD_eq_getElem?_getD,List.getElem?_eq_getElem hi]; exact List.getElem_mem hi
   ·rw [List.getD_eq_getElem?_getD,List.getElem?_eq_getElem hi]; exact List.getElem_mem hi
  | iface t x us h1=>exact .iface t x us (ih h h1)
  | mpv id g L h1 h2=>exact .mpv id g L h1 h2
  | arv id o n lo m g L h1 h2 h3 h4=>exact .arv id o n lo m g L h1 h2 h3 h4
  | arw id ver i z o n lo m g L h1 h2 h3 h4 h5=>exact .arw id ver i z o n lo m g L h1 h2 h3 h4 h5
theorem flat_vl {d:Nat} {x:AV} {v:Value} (h:flatB d x=true) (hv:Vl w S ρ x v):Vl w S' ρ x v:=by
 have one:∀ {d:Nat} {x:AV} {v:Value},flatB d x=true→Vl1 w S ρ x v→Vl1 w S' ρ x v:=by
  intro d x v h hv
  rcases hv with rfl | ⟨us,hc,rfl⟩
  ·exact .inl rfl
  ·exact .inr ⟨us,flat_cs d h hc,rfl⟩
 cases x
 case tup xs =>
  cases d with
  | zero=>cases h
  | succ d =>
   simp only [flatB,List.all_eq_true] at h
   obtain ⟨vs,e,h2,h3⟩:=hv
   refine ⟨vs,e,h2,fun i hi=>one (h _ ?_) (h3 i hi)⟩
   rw [List.getD_eq_getElem?_getD,List.getElem?_eq_getElem hi]; exact List.getElem_mem hi
 all_goals exact (one h hv).vl
def renObj (σ:Nat→Option Nat):AObj→Option AObj
 | .cells t ps=>(mapO (fun p=>(ren σ 4 p.2).map fun y=>(p.1,y)) ps).map (.cells t)
 | .mp ks es=>(mapO (fun p=>(ren σ 4 p.2).map fun y=>(p.1,y)) es).map (.mp ks)
 | o=>some o
def flatPs:List (Nat × AV)→Prop
 | []=>True
 | p :: ps=>flatB 4 p.2=true∧flatPs ps
theorem flatPs_all:∀ {ps:List (Nat × AV)},flatPs ps→∀ p∈ps,flatB 4 p.2=true
 | [],_,p,h=>by simp at h
 | q :: ps,h,p,hp=>by
  rcases List.mem_cons.1 hp with rfl | hp
  ·exact h.1
  ·exact flatPs_all h.2 p hp
def flatO:AObj→Prop
 | .cells _ ps=>flatPs ps
 | .mp _ es=>∀ p∈es,flatB 4 p.2=true
 | .row _ _ _ xs=>∀ x∈xs,flatB 4 x=true
 | .froz _ _ _=>False
 | .gone=>True
theorem css_of_all {ps:List (Nat × AV)} {us:List Value} (h:∀ p∈ps,flatB 4 p.2=true) (hc:Css w S ρ ps us):Css w S' ρ ps us:=by
 induction ps generalizing us with
 | nil=>exact hc
 | cons p ps ih =>
  obtain ⟨s,x⟩:=p
  obtain ⟨u1,u2,rfl,h1,h2,h3⟩:=hc
  exact ⟨u1,u2,rfl,h1,flat_cs 4 (h (s,x) (by simp)) h2,ih (fun p hp=>h p (by simp [hp])) h3⟩
theorem ren_css {σ:Nat→Option Nat} (hσ:∀ i j,σ i=some j→∀ v L,ρ i v=some L→ρ' j v=some L) {ps qs:List (Nat × AV)} {us:List Value} (h:mapO (fun p=>(ren σ 4 p.2).map fun y=>(p.1,y)) ps=some qs) (hc:Css w S ρ ps us):Css w S ρ' qs us:=by
 induction ps generalizing us qs with
 | nil=>simp only [mapO,Option.some.injEq] at h; subst h; exact hc
 | cons p ps ih =>
  obtain ⟨s,x⟩:=p
  simp only [mapO] at h
  split at h
  ·rename_i b bs hb hbs
   injection h with h; subst h
   obtain ⟨y,hy,rfl⟩:=Option.map_eq_some_iff.1 hb
   obtain ⟨u1,u2,rfl,h1,h2,h3⟩:=hc
   exact ⟨u1,u2,rfl,h1,(ren_cs hσ 4 hy h2).1,ih hbs h3⟩
  ·cases h
theorem map_of_all {ks:KS}:∀ {es:List (MK × AV)} {l:List MapEntry},(∀ p∈es,flatB 4 p.2=true)→MapOk w S ρ ks es l→MapOk w S' ρ ks es l
 | [],[],_,_=>trivial
 | p :: r,e :: l,h,⟨⟨h1,h2,us,h3,h4⟩,h5⟩=>⟨⟨h1,h2,us,flat_cs 4 (h p (by simp)) h3,h4⟩,map_of_all (fun p hp=>h p (by simp [hp])) h5⟩
 | [],_ :: _,_,h=>h.elim
 | _ :: _,[],_,h=>h.elim
theorem ren_map {σ:Nat→Option Nat} {ks:KS} (hσ:∀ i j,σ i=some j→∀ v L,ρ i v=some L→ρ' j v=some L):∀ {es qs:List (MK × AV)} {l:List MapEntry},mapO (fun p=>(ren σ 4 p.2).map fun y=>(p.1,y)) es=some qs→MapOk w S ρ ks es l→MapOk w S ρ' ks qs l
 | [],qs,[],h,_=>by simp only [mapO,Option.some.injEq] at h; subst h; trivial
 | p :: r,qs,e :: l,h,⟨⟨h1,h2,us,h3,h4⟩,h5⟩=>by
  simp only [mapO] at h
  split at h
  ·rename_i b bs hb hbs
   injection h with h; subst h
   obtain ⟨y,hy,rfl⟩:=Option.map_eq_some_iff.1 hb
   obtain ⟨k1,k2,_⟩:=ren_cs hσ 4 hy h3
   refine ⟨⟨h1,h2,us,k1,?_⟩,ren_map hσ hbs h5⟩
   rw [h4]; unfold wrapv; simp only [k2]
  ·cases h
 | [],_,_ :: _,_,h=>h.elim
 | _ :: _,_,[],_,h=>h.elim
theorem renObj_ok {σ:Nat→Option Nat} {i j:Nat} {o o' : AObj} (hσ:∀ i j,σ i=some j→∀ v L,ρ i v=some L→ρ' j v=some L) (hij:σ i=some j) (hn:∀ v,ρ i v=none→ρ' j v=none) (h:renObj σ o=some o') (ho:ObjOk w S ρ i o)
  (hS:∀ b,o.blk ρ i=some b→S' b→S b) (hst:(∀ b,S b→S' b)∨flatO o):ObjOk w S' ρ' j o' ∧ o'.ver=o.ver∧(∀ b,o'.blk ρ' j=some b→o.blk ρ i=some b):=by
 cases o with
 | cells t ps =>
  simp only [renObj] at h
  obtain ⟨qs,hq,rfl⟩:=Option.map_eq_some_iff.1 h
  obtain ⟨g,us,h1,h2,h3,h4⟩:=ho
  have h1' := hσ i j hij _ _ h1
  have hb:(AObj.cells t ps).blk ρ i=some g:=by simp [AObj.blk,h1,ablk]
  have h3' : Css w S' ρ ps us:=by
   rcases hst with hst | hst
   ·exact h3.ext ⟨fun _ _=>rfl,hst,fun _ _ _ h=>h⟩
   ·exact css_of_all (flatPs_all hst) h3
  refine ⟨⟨g,us,h1',h2,ren_css hσ hq h3',fun hs=>h4 (hS g hb hs)⟩,rfl,fun b hbb=>?_⟩
  simp only [AObj.blk,h1',Option.bind_some,ablk,Option.map_some] at hbb
  rw [hb]; exact hbb
 | mp ks es =>
  simp only [renObj] at h
  obtain ⟨qs,hq,rfl⟩:=Option.map_eq_some_iff.1 h
  obtain ⟨g,arr,clock,h1,h2,h3,h4,h5⟩:=ho
  have h1' := hσ i j hij _ _ h1
  have hb:(AObj.mp ks es).blk ρ i=some g:=by simp [AObj.blk,h1,ablk]
  have h3' : MapOk w S' ρ ks es arr.toList:=by
   rcases hst with hst | hst
   ·exact h3.ext ⟨fun _ _=>rfl,hst,fun _ _ _ h=>h⟩
   ·exact map_of_all hst h3
  refine ⟨⟨g,arr,clock,h1',h2,ren_map hσ hq h3',h4,fun hs=>h5 (hS g hb hs)⟩,rfl,fun b hbb=>?_⟩
  simp only [AObj.blk,h1',Option.bind_some,ablk,Option.map_some] at hbb
  rw [hb]; exact hbb
 | row e sz ver xs =>
  simp only [renObj,Option.some.injEq] at h; subst h
  obtain ⟨L,us,h1,h2,h3,h4,h5,h6⟩:=ho
  have h1' := hσ i j hij _ _ h1
  have hb:∀ g,ablk L.A=some g→(AObj.row e sz ver xs).blk ρ i=some g:=fun g hg=>by simp [AObj.blk,h1,hg]
  have h5' : Css w S' rho0 (prs sz xs) us:=by
   rcases hst with hst | hst
   ·exact h5.ext ⟨fun _ _=>rfl,hst,fun _ _ _ h=>h⟩
   ·refine css_of_all (fun p hp=>?_) h5
    obtain ⟨x,hx,rfl⟩:=List.mem_map.1 hp
    exact hst x hx
  refine ⟨⟨L,us,h1',h2,h3,h4,h5',fun g hg hs=>h6 g hg (hS g (hb g hg) hs)⟩,rfl,fun b hbb=>?_⟩
  simp only [AObj.blk,h1',Option.bind_some] at hbb
  exact hb b hbb
 | froz sz ver xs =>
  simp only [renObj,Option.some.injEq] at h; subst h
  obtain ⟨L,h1,h2,h3,h4⟩:=ho
  rcases hst with hst | hst
  ·exact ⟨⟨L,hσ i j hij _ _ h1,h2,h3,h4.ext (fun _ _=>rfl) hst (fun _ _ _ h=>by cases h)⟩,rfl,fun b hbb=>by cases hbb⟩
  ·exact hst.elim
 | gone =>
  simp only [renObj,Option.some.injEq] at h; subst h
  exact ⟨fun v=>hn v (ho v),rfl,fun b hbb=>by cases hbb⟩
end
end Go.Proofs.YtakolikdebfkeaaDoor
namespace Go.Proofs.YtakolikdebfkeaaDoor
open Go.RowKit
structure Ret where
 v:AV
 hp:List AObj
 pre:Prop
abbrev Spec:=List AV→List AObj→Option Ret
def Lent (ρ:Rho) (hp:List AObj) (b:Nat):Prop:=∃ (id:Nat) (o:AObj),hp[id]?=some o∧o.blk ρ id=some b
structure ArgsOk (w:World) (S:Nat→Prop) (ρ:Rho) («as»:List AV) (args:List Value):Prop where
 glob:GlobOk w S
 len:args.length=«as».length
 at_:∀ i,i<«as».length→Vl w S ρ («as».getD i .top) (args.getD i undef)
def FnT (T:Value→Ending) (P:Program) (f:FuncId) (sp:Spec):Prop:=∀ «as» hp r,sp «as» hp=some r→r.pre→∀ (w:World) (S:Nat→Prop) (ρ:Rho) (args:List Value),HeapOk (Lent ρ hp) w S ρ hp w→ArgsOk w S ρ «as» args →
 Calls P f args.toArray w fun e w' => ∃ v S' ρ',e=T v∧Vl w' S' ρ' r.v v∧HeapOk (Lent ρ hp) w S' ρ' r.hp w' ∧ Ext w w' S S' ρ ρ' ∧ (∀ b,S' b→S b∨w.heap.size≤b∨Lent ρ hp b)
def FnOk (P:Program) (f:FuncId) (sp:Spec):Prop:=FnT .returned P f sp
section
variable {F : Nat → Prop} {w0 w w' : World} {S Sc S' : Nat → Prop} {ρ ρc ρ' : Rho} {hp hpc rhp hp2 : List AObj} {τ : Nat → Option Nat}
open Classical in
noncomputable def rhoM (τ:Nat→Option Nat) (ρ ρ' : Rho):Rho:=fun k v=>if h:∃ j,τ j=some k then ρ' h.choose v else ρ k v
theorem rhoM_in (hinj:∀ i j k,τ i=some k→τ j=some k→i=j) {j k:Nat} (h:τ j=some k) (v:Nat):rhoM τ ρ ρ' k v=ρ' j v:=by
 have hex:∃ j,τ j=some k:=⟨j,h⟩
 unfold rhoM
 rw [dif_pos hex]
 have:=hinj _ _ k hex.choose_spec h
 rw [this]
theorem rhoM_out {k:Nat} (h:∀ j,τ j≠some k) (v:Nat):rhoM τ ρ ρ' k v=ρ k v:=by
 unfold rhoM
 rw [dif_neg (fun ⟨j,hj⟩=>h j hj)]
theorem HeapOk.merge (H:HeapOk F w0 S ρ hp w) (Hc:HeapOk (Lent ρc hpc) w S' ρ' rhp w') (hS:∀ b,S b→S' b) (hSw:∀ b,S b→w'.heap[b]?=w.heap[b]?)
  (hinj:∀ i j k,τ i=some k→τ j=some k→i=j)
  (hb:∀ (k:Nat) (o:AObj),hp2[k]?=some o→(∃ j oc,rhp[j]?=some oc∧τ j=some k∧renObj τ oc=some o)∨(hp[k]?=some o∧∀ j,τ j≠some k))
  (hlent:∀ b,Lent ρc hpc b→∃ (k:Nat) (o:AObj) (j:Nat),hp[k]?=some o∧o.blk ρ k=some b∧τ j=some k)
  (hτl:∀ j k,τ j=some k→∀ v L,ρ k v=some L→ρ' j v=some L) (hτb:∀ j k,τ j=some k→k<hp2.length∨∀ v,ρ' j v=none) (hlen:hp.length≤hp2.length)
  (hflat:(∀ b,S' b→S b∨w.heap.size≤b∨Lent ρc hpc b)∨∀ (j:Nat) (o:AObj),rhp[j]?=some o→flatO o) :
  HeapOk F w0 (fun b=>S' b∧(S b∨w.heap.size≤b∨Lent ρc hpc b)) (rhoM τ ρ ρ') hp2 w' ∧ Ext w w' S (fun b=>S' b∧(S b∨w.heap.size≤b∨Lent ρc hpc b)) ρ (rhoM τ ρ ρ'):=by
 have hloc:∀ k v L,ρ k v=some L→rhoM τ ρ ρ' k v=some L:=by
  intro k v L hk
  by_cases h:∃ j,τ j=some k
  ·obtain ⟨j,hj⟩:=h
   rw [rhoM_in hinj hj]; exact hτl j k hj v L hk
  ·rw [rhoM_out (fun j hj=>h ⟨j,hj⟩)]; exact hk
 have hE:Ext w w' S (fun b=>S' b∧(S b∨w.heap.size≤b∨Lent ρc hpc b)) ρ (rhoM τ ρ ρ'):=⟨hSw,fun b hb=>⟨hS b hb,.inl hb⟩,hloc⟩
 have hσ:∀ i j,τ i=some j→∀ v L,ρ' i v=some L→rhoM τ ρ ρ' j v=some L:=fun i j hij v L h=>by rw [rhoM_in hinj hij]; exact h
 have touched:∀ {k j:Nat} {oc o:AObj},rhp[j]?=some oc→τ j=some k→renObj τ oc=some o→ObjOk w' (fun b=>S' b∧(S b∨w.heap.size≤b∨Lent ρc hpc b)) (rhoM τ ρ ρ') k o∧o.ver=oc.ver∧(∀ b,o.blk (rhoM τ ρ ρ') k=some b→oc.blk ρ' j=some b):=by
  intro k j oc o h1 h2 h3
  refine renObj_ok hσ h2 (fun v hv=>by rw [rhoM_in hinj h2]; exact hv) h3 (Hc.ob j oc h1) (fun b _ hs=>hs.1) ?_
  rcases hflat with hf | hf
  ·exact .inl fun b hb=>⟨hb,hf b hb⟩
  ·exact .inr (hf j oc h1)
 have out:∀ {k:Nat} {o:AObj},hp[k]?=some o→(∀ j,τ j≠some k)→∀ b,o.blk ρ k=some b→b<w.heap.size∧¬ Lent ρc hpc b:=by
  intro k o h1 h2 b hbb
  refine ⟨(H.ob k o h1).lt b hbb,fun hl=>?_⟩
  obtain ⟨k2,o2,j,h3,h4,h5⟩:=hlent b hl
  exact H.apart k k2 o o2 (fun e=>h2 j (e ▸ h5)) h1 h3 b hbb h4
 have keptC:Kept F w0 w' := by
  refine ⟨Hc.kept.os.trans H.kept.os,Hc.kept.tape.trans H.kept.tape,Hc.kept.output.trans H.kept.output,Nat.le_trans H.kept.size Hc.kept.size,fun i hi hn=>?_⟩
  rw [Hc.kept.block i (Nat.lt_of_lt_of_le hi H.kept.size) (fun hl=>?_)]
  ·exact H.kept.block i hi hn
  ·obtain ⟨k2,o2,j,h3,h4,h5⟩:=hlent i hl
   rcases H.mine k2 o2 h3 i h4 with h | h
   ·exact hn h
   ·omega
 refine ⟨⟨keptC,fun k o ho=>?_,fun i j x y hij hx hy b hxb hyb=>?_,fun k o ho b hbb=>?_,fun b hbb=>Hc.slt b hbb.1,fun k hk v=>?_,fun k o ho v hv=>?_⟩,hE⟩
 ·rcases hb k o ho with ⟨j,oc,h1,h2,h3⟩ | ⟨h1,h2⟩
  ·exact (touched h1 h2 h3).1
  ·refine (H.ob k o h1).keep hE (fun b hbb=>?_) (fun b hbb hs=>?_) (fun v hv=>by rw [rhoM_out h2]; exact hv)
   ·obtain ⟨k1,k2⟩:=out h1 h2 b hbb
    exact Hc.kept.block b k1 k2
   ·obtain ⟨k1,k2⟩:=out h1 h2 b hbb
    rcases hs.2 with h | h | h
    ·exact h
    ·omega
    ·exact absurd h k2
 ·have side:∀ {k j:Nat} {oc o o2:AObj} {k2:Nat},rhp[j]?=some oc→τ j=some k→renObj τ oc=some o→hp[k2]?=some o2→(∀ j,τ j≠some k2)→∀ b,o.blk (rhoM τ ρ ρ') k=some b→o2.blk (rhoM τ ρ ρ') k2=some b→False:=by
   intro k j oc o o2 k2 h1 h2 h3 h4 h5 b hb1 hb2
   have hb1' := (touched h1 h2 h3).2.2 b hb1
   rw [AObj.blk_ext (H.ob k2 o2 h4) hloc] at hb2
   obtain ⟨k1,k3⟩:=out h4 h5 b hb2
   rcases Hc.mine j oc h1 b hb1' with h | h
   ·exact k3 h
   ·omega
  rcases hb i x hx with ⟨ji,oi,h1,h2,h3⟩ | ⟨h1,h2⟩ <;> rcases hb j y hy with ⟨jj,oj,h4,h5,h6⟩ | ⟨h4,h5⟩
  ·have e1:=(touched h1 h2 h3).2.2 b hxb
   have e2:=(touched h4 h5 h6).2.2 b hyb
   refine Hc.apart ji jj oi oj (fun e=>?_) h1 h4 b e1 e2
   subst e; rw [h2] at h5; injection h5 with h5; exact hij h5
  ·exact side h1 h2 h3 h4 h5 b hxb hyb
  ·exact side h4 h5 h6 h1 h2 b hyb hxb
  ·rw [AObj.blk_ext (H.ob i x h1) hloc] at hxb
   rw [AObj.blk_ext (H.ob j y h4) hloc] at hyb
   exact H.apart i j x y hij h1 h4 b hxb hyb
 ·rcases hb k o ho with ⟨j,oc,h1,h2,h3⟩ | ⟨h1,h2⟩
  ·have e1:=(touched h1 h2 h3).2.2 b hbb
   rcases Hc.mine j oc h1 b e1 with h | h
   ·obtain ⟨k2,o2,j,h3,h4,h5⟩:=hlent b h
    exact H.mine k2 o2 h3 b h4
   ·exact .inr (Nat.le_trans H.kept.size h)
  ·rw [AObj.blk_ext (H.ob k o h1) hloc] at hbb
   exact H.mine k o h1 b hbb
 ·by_cases h:∃ j,τ j=some k
  ·obtain ⟨j,hj⟩:=h
   rw [rhoM_in hinj hj]
   rcases hτb j k hj with h | h
   ·omega
   ·exact h v
  ·rw [rhoM_out (fun j hj=>h ⟨j,hj⟩)]; exact H.new k (by omega) v
 ·rcases hb k o ho with ⟨j,oc,h1,h2,h3⟩ | ⟨h1,h2⟩
  ·rw [rhoM_in hinj h2]
   exact Hc.vers j oc h1 v (by rw [← (touched h1 h2 h3).2.1]; exact hv)
  ·rw [rhoM_out h2]; exact H.vers k o h1 v hv
end
end Go.Proofs.YtakolikdebfkeaaDoor
namespace Go.Proofs.YtakolikdebfkeaaDoor
open Go.RowKit
def posOf:List Nat→Nat→Option Nat
 | [],_=>none
 | k :: r,i=>if k=i then some 0 else (posOf r i).map (·+1)
theorem posOf_ok:∀ {l:List Nat} {i j:Nat},posOf l i=some j→l[j]?=some i:=by
 intro l
 induction l with
 | nil=>intro i j h; cases h
 | cons k r ih =>
  intro i j h
  simp only [posOf] at h
  split at h
  ·rename_i e; injection h with h; subst h e; rfl
  ·obtain ⟨m,hm,rfl⟩:=Option.map_eq_some_iff.1 h
   simpa using ih hm
theorem posOf_none:∀ {l:List Nat} {i:Nat},posOf l i=none→∀ j:Nat,l[j]?≠some i:=by
 intro l
 induction l with
 | nil=>intro i _ j h; simp at h
 | cons k r ih =>
  intro i h j hj
  simp only [posOf] at h
  split at h
  ·cases h
  ·rename_i hne
   simp only [Option.map_eq_none_iff] at h
   cases j with
   | zero=>simp only [List.getElem?_cons_zero,Option.some.injEq] at hj; exact hne hj
   | succ j=>exact ih h j (by simpa using hj)
def nodupB:List Nat→Bool
 | []=>true
 | x :: r=>!r.contains x && nodupB r
theorem nodupB_ok:∀ {l:List Nat},nodupB l=true→∀ i j k:Nat,l[i]?=some k→l[j]?=some k→i=j:=by
 intro l
 induction l with
 | nil=>intro _ i j k h; simp at h
 | cons x r ih =>
  intro h i j k hi hj
  simp only [nodupB,Bool.and_eq_true,Bool.not_eq_true',List.contains_eq_mem,decide_eq_false_iff_not] at h
  cases i with
  | zero =>
   cases j with
   | zero=>rfl
   | succ j =>
    simp only [List.getElem?_cons_zero,Option.some.injEq] at hi; subst hi
    exact absurd (List.mem_of_getElem? (by simpa using hj)) h.1
  | succ i =>
   cases j with
   | zero =>
    simp only [List.getElem?_cons_zero,Option.some.injEq] at hj; subst hj
    exact absurd (List.mem_of_getElem? (by simpa using hi)) h.1
   | succ j=>rw [ih h.2 i j k (by simpa using hi) (by simpa using hj)]
def bor0 (hp:List AObj):AV→Option (AV × List Nat)
 | .own id v=>match hp[id]? with
  | some (.row _ sz v' xs)=>if v=v' ∧ 0<sz then some (.sl sz xs,[id]) else none
  | some (.froz sz v' xs)=>if v=v' ∧ 0<sz then some (.sl sz xs,[]) else none
  | _=>none
 | .ownv id v i m=>match hp[id]? with
  | some (.row _ sz v' xs)=>if v=v' ∧ 0<sz then some (.sl sz ((xs.drop i).take m),[id]) else none
  | some (.froz sz v' xs)=>if v=v' ∧ 0<sz then some (.sl sz ((xs.drop i).take m),[]) else none
  | _=>none
 | .con u=>if nilS u then some (.sl 1 [],[]) else some (.con u,[])
 | .arv id o n lo m=>(viewA hp (.arv id o n lo m)).map fun xs=>(.sl 1 xs,[id])
 | .arw id v i z o n lo m=>(viewA hp (.arw id v i z o n lo m)).map fun xs=>(.sl 1 xs,[id])
 | x=>some (x,[])
def bor1 (hp:List AObj):AV→Option (AV × List Nat)
 | .agg ps=>(mapO (fun p=>(bor0 hp p.2).map fun q=>((p.1,q.1),q.2)) ps).map fun l=>(.agg (l.map (·.1)),(l.map (·.2)).flatten)
 | x=>bor0 hp x
def bor (hp:List AObj):List Bool→List AV→Option (List AV × List Nat)
 | _,[]=>some ([],[])
 | true :: ms,x :: xs=>match bor hp ms xs with
  | some (ys,l)=>some (x :: ys,l)
  | none=>none
 | false :: ms,x :: xs=>match bor1 hp x,bor hp ms xs with
  | some (y,k),some (ys,l)=>some (y :: ys,k ++ l)
  | _,_=>none
 | [],x :: xs=>match bor1 hp x,bor hp [] xs with
  | some (y,k),some (ys,l)=>some (y :: ys,k ++ l)
  | _,_=>none
def Brw (ρ:Rho) (hp:List AObj) (brw:List Nat) (b:Nat):Prop:=∃ (id:Nat) (o:AObj),id∈brw∧hp[id]?=some o∧o.blk ρ id=some b
section
variable {P : Program} {F : Nat → Prop} {w0 w : World} {S Sc : Nat → Prop} {ρ : Rho} {hp : List AObj}
theorem bor0_ok (H:ObsOk w S ρ hp) {x y:AV} {l brw:List Nat} {v:Value} (h:bor0 hp x=some (y,l)) (hl:∀ i∈l,i∈brw) (hS:∀ b,S b→Sc b) (hB:∀ b,Brw ρ hp brw b→Sc b) (hv:Vl w S ρ x v):Vl w Sc ρ y v:=by
 have same:∀ {x y:AV} {l:List Nat},some (x,([]:List Nat))=some (y,l)→Vl w S ρ x v→Vl w Sc ρ y v:=by
  intro x y l e hv
  injection e with e; injection e with e1 e2; subst e1
  exact hv.ext ⟨fun _ _=>rfl,hS,fun _ _ _ h=>h⟩
 cases x <;> simp only [bor0] at h
 case own id ver =>
  split at h
  ·rename_i e sz v' xs ho
   split at h
   ·rename_i e1; obtain ⟨rfl,hsz⟩:=e1; injection h with h; injection h with e1 e2; subst e1 e2
    obtain ⟨L,hL,rfl⟩:=hv.own
    obtain ⟨L',us,k1,k2,k3,k4,k5,k6⟩:=H _ _ ho (by simp)
    rw [hL] at k1; injection k1 with k1; subst k1
    subst k3
    refine (k4.mem k2 k5).sl hsz (fun b hb=>hB b ⟨id,_,hl id (by simp),ho,by simp [AObj.blk,hL,hb]⟩) hS
   ·cases h
  ·rename_i sz v' xs ho
   split at h
   ·rename_i e1; obtain ⟨rfl,hsz⟩:=e1; injection h with h; injection h with e1 e2; subst e1 e2
    obtain ⟨L,hL,rfl⟩:=hv.own
    obtain ⟨L',k1,k2,k3,k4⟩:=H _ _ ho (by simp)
    rw [hL] at k1; injection k1 with k1; subst k1
    exact .inr ⟨_,k4.ext (fun _ _=>rfl) hS (fun _ _ _ h=>by cases h),rfl⟩
   ·cases h
  ·cases h
 case ownv id ver i m =>
  split at h
  ·rename_i e sz v' xs ho
   split at h
   ·rename_i e1; obtain ⟨rfl,hsz⟩:=e1; injection h with h; injection h with e1 e2; subst e1 e2
    obtain ⟨A,n,c,us,hvs,hM⟩:=view_ok (sz:=sz) (xs:=(xs.drop i).take m) H (by simp [view,ho]) hv
    obtain ⟨L,A0,hL,hm,hA0,e⟩:=hv.ownv
    rw [e] at hvs ⊢
    injection hvs with e1 e2 e3
    subst e1 e2 e3
    rcases Nat.eq_zero_or_pos m with h0 | h0
    ·subst h0
     rw [List.take_zero]
     exact .inr ⟨_,.sl0 sz A0 _ (by have:=hM.max; omega),rfl⟩
    ·refine hM.sl hsz (fun b hb=>?_) hS
     rw [hA0 (.inl h0),cutA_blk] at hb
     exact hB b ⟨id,_,hl id (by simp),ho,by simp [AObj.blk,hL,hb]⟩
   ·cases h
  ·rename_i sz v' xs ho
   split at h
   ·rename_i e1; obtain ⟨rfl,hsz⟩:=e1; injection h with h; injection h with e1 e2; subst e1 e2
    obtain ⟨L,A0,hL,hm,hA0,rfl⟩:=hv.ownv
    obtain ⟨L',k1,k2,k3,k4⟩:=H _ _ ho (by simp)
    rw [hL] at k1; injection k1 with k1; subst k1
    obtain ⟨A,c,e1,e2,k5⟩:=k4.sl_cut (i:=i) (j:=i+m) (by omega) (by omega)
    injection e1 with e3 e4 e5
    subst e3 e5
    have e6:(xs.take (i+m)).drop i=(xs.drop i).take m:=by rw [List.take_drop]
    rw [e6,show i+m - i=m by omega] at k5
    rcases Nat.eq_zero_or_pos m with h0 | h0
    ·subst h0
     rw [List.take_zero] at k5 ⊢
     obtain ⟨_,_,_,_,e7,hM⟩:=Mem.of_sl k5
     injection e7 with e7 e8 e9
     have:=hM.max
     exact .inr ⟨_,.sl0 sz A0 _ (by omega),rfl⟩
    ·rw [hA0 (.inl h0),k3]
     exact .inr ⟨_,k5.ext (fun _ _=>rfl) hS (fun _ _ _ h=>by cases h),rfl⟩
   ·cases h
  ·cases h
 case con u =>
  split at h
  ·rename_i hu
   injection h with h; injection h with e1 e2; subst e1 e2
   rw [hv.con.trans (nilS_eq hu)]
   exact .inr ⟨_,.sl0 1 none 0 (by omega),rfl⟩
  ·exact same h hv
 case arv id o n lo m =>
  obtain ⟨xs,hxs,e⟩:=Option.map_eq_some_iff.1 h
  injection e with e1 e2; subst e1 e2
  obtain ⟨g,L,hL,hA,_,_,rfl⟩:=hv.arv
  obtain ⟨A,n',c,us,e,hM⟩:=view_ok (sz:=1) (x:=.arv id o n lo m) H (by simp only [view,if_true]; exact hxs) hv
  injection e with e1 e2 e3; subst e1 e2 e3
  simp only [viewA] at hxs
  split at hxs
  ·rename_i t ps ho
   refine hM.sl (by omega) (fun b hb=>?_) hS
   simp only [ablk,Option.map_some,Option.some.injEq] at hb; subst hb
   exact hB _ ⟨id,_,hl id (by simp),ho,by simp [AObj.blk,hL,ablk,hA]⟩
  ·cases hxs
 case arw id ver i z o n lo m =>
  obtain ⟨xs,hxs,e⟩:=Option.map_eq_some_iff.1 h
  injection e with e1 e2; subst e1 e2
  obtain ⟨g,L,hL,hA,_,_,_,rfl⟩:=hv.arw
  obtain ⟨A,n',c,us,e,hM⟩:=view_ok (sz:=1) (x:=.arw id ver i z o n lo m) H (by simp only [view,if_true]; exact hxs) hv
  injection e with e1 e2 e3; subst e1 e2 e3
  simp only [viewA] at hxs
  split at hxs
  ·rename_i e s v' ys ho
   split at hxs
   ·rename_i e1; subst e1
    refine hM.sl (by omega) (fun b hb=>?_) hS
    simp only [ablk,Option.map_some,Option.some.injEq] at hb; subst hb
    exact hB _ ⟨id,_,hl id (by simp),ho,by simp [AObj.blk,hL,ablk,hA]⟩
   ·cases hxs
  ·cases hxs
 all_goals exact same h hv
theorem bor1_ok (H:ObsOk w S ρ hp) {x y:AV} {l brw:List Nat} {v:Value} (h:bor1 hp x=some (y,l)) (hl:∀ i∈l,i∈brw) (hS:∀ b,S b→Sc b) (hB:∀ b,Brw ρ hp brw b→Sc b) (hv:Vl w S ρ x v):Vl w Sc ρ y v:=by
 cases x
 case agg ps =>
  simp only [bor1] at h
  obtain ⟨m,hm,e⟩:=Option.map_eq_some_iff.1 h
  injection e with e1 e2; subst e1 e2
  obtain ⟨us,hc,rfl⟩:=hv.agg
  replace hc:=hc.parts
  suffices hh:Css w Sc ρ (m.map (·.1)) us from Vl.agg' hh.cs
  clear h hv
  induction ps generalizing us m with
  | nil=>simp only [mapO,Option.some.injEq] at hm; subst hm; exact hc
  | cons p ps ih =>
   obtain ⟨s,x⟩:=p
   simp only [mapO] at hm
   split at hm
   ·rename_i b bs hb hbs
    injection hm with hm; subst hm
    obtain ⟨⟨y,k⟩,hy,rfl⟩:=Option.map_eq_some_iff.1 hb
    obtain ⟨u1,u2,rfl,h1,h2,h3⟩:=hc
    have hl' : (∀ i∈k,i∈brw)∧∀ i∈(bs.map (·.2)).flatten,i∈brw:=by
     constructor
     ·intro i hi; exact hl i (by simp [hi])
     ·intro i hi; exact hl i (by simp only [List.map_cons,List.flatten_cons,List.mem_append]; exact .inr hi)
    have h2' : Cs w Sc ρ y u1:=by
     cases x <;> simp only [bor0] at hy
     case own id ver =>
      obtain ⟨v,rfl⟩:∃ v,u1=[v]:=by cases h2; exact ⟨_,rfl⟩
      have hv1:Vl w S ρ (.own id ver) v:=.inr ⟨[v],h2,rfl⟩
      have:=bor0_ok H (x:=.own _ _) (by simpa only [bor0] using hy) hl'.1 hS hB hv1
      split at hy
      ·split at hy
       ·injection hy with hy; injection hy with e1 e2; subst e1; exact this.sl
       ·cases hy
      ·split at hy
       ·injection hy with hy; injection hy with e1 e2; subst e1; exact this.sl
       ·cases hy
      ·cases hy
     case ownv id ver i m =>
      obtain ⟨v,rfl⟩:∃ v,u1=[v]:=by cases h2; exact ⟨_,rfl⟩
      have hv1:Vl w S ρ (.ownv id ver i m) v:=.inr ⟨[v],h2,rfl⟩
      have:=bor0_ok H (x:=.ownv _ _ _ _) (by simpa only [bor0] using hy) hl'.1 hS hB hv1
      split at hy
      ·split at hy
       ·injection hy with hy; injection hy with e1 e2; subst e1; exact this.sl
       ·cases hy
      ·split at hy
       ·injection hy with hy; injection hy with e1 e2; subst e1; exact this.sl
       ·cases hy
      ·cases hy
     case con u =>
      split at hy
      ·rename_i hu
       injection hy with hy; injection hy with e1 e2; subst e1
       have:u1=[u]:=by cases h2; rfl
       rw [this,nilS_eq hu]
       exact .sl0 1 none 0 (by omega)
      ·injection hy with hy; injection hy with e1 e2; subst e1
       exact h2.ext (fun _ _=>rfl) hS (fun _ _ _ h=>h)
     case arv id o n lo m =>
      obtain ⟨v,rfl⟩:∃ v,u1=[v]:=by cases h2; exact ⟨_,rfl⟩
      have hv1:Vl w S ρ (.arv id o n lo m) v:=.inr ⟨[v],h2,rfl⟩
      have:=bor0_ok H (x:=.arv _ _ _ _ _) (by simpa only [bor0] using hy) hl'.1 hS hB hv1
      obtain ⟨xs,hxs,e⟩:=Option.map_eq_some_iff.1 hy
      injection e with e1 e2; subst e1 e2
      exact this.sl
     case arw id ver i z o n lo m =>
      obtain ⟨v,rfl⟩:∃ v,u1=[v]:=by cases h2; exact ⟨_,rfl⟩
      have hv1:Vl w S ρ (.arw id ver i z o n lo m) v:=.inr ⟨[v],h2,rfl⟩
      have:=bor0_ok H (x:=.arw _ _ _ _ _ _ _ _) (by simpa only [bor0] using hy) hl'.1 hS hB hv1
      obtain ⟨xs,hxs,e⟩:=Option.map_eq_some_iff.1 hy
      injection e with e1 e2; subst e1 e2
      exact this.sl
     all_goals (injection hy with hy; injection hy with e1 e2; subst e1; exact h2.ext (fun _ _=>rfl) hS (fun _ _ _ h=>h))
    exact ⟨u1,u2,rfl,h1,h2',ih bs hbs hl'.2 u2 h3⟩
   ·cases hm
 all_goals (refine bor0_ok (l:=l) H ?_ hl hS hB hv; exact h)
theorem bor_ok (H:ObsOk w S ρ hp) {brw:List Nat} (hS:∀ b,S b→Sc b) (hB:∀ b,Brw ρ hp brw b→Sc b):∀ {ms:List Bool} {xs ys:List AV} {l:List Nat} {vs:List Value},bor hp ms xs=some (ys,l)→(∀ i∈l,i∈brw)→ArgsOk w S ρ xs vs→ArgsOk w Sc ρ ys vs:=by
 have ext:∀ {x:AV} {v:Value},Vl w S ρ x v→Vl w Sc ρ x v:=fun h=>h.ext ⟨fun _ _=>rfl,hS,fun _ _ _ h=>h⟩
 have cons:∀ {x y:AV} {xs ys:List AV} {vs:List Value},ArgsOk w S ρ (x :: xs) vs→(∀ v,Vl w S ρ x v→Vl w Sc ρ y v)→(∀ vs,ArgsOk w S ρ xs vs→ArgsOk w Sc ρ ys vs)→ArgsOk w Sc ρ (y :: ys) vs:=by
  intro x y xs ys vs h h1 h2
  obtain ⟨h0,h3,h4⟩:=h
  cases vs with
  | nil=>simp at h3
  | cons v vs =>
   have k1:=h1 v (by simpa using h4 0 (by simp))
   obtain ⟨k0,k2,k3⟩:=h2 vs ⟨h0,by simpa using h3,fun i hi=>by simpa using h4 (i+1) (by simpa using hi)⟩
   refine ⟨k0,by simp [k2],fun i hi=>?_⟩
   cases i with
   | zero=>simpa using k1
   | succ i=>simpa using k3 i (by simpa using hi)
 intro ms xs
 induction xs generalizing ms with
 | nil =>
  intro ys l vs h hl ha
  have:some (([]:List AV),([]:List Nat))=some (ys,l):=by cases ms with | nil=>exact h | cons b ms=>cases b <;> exact h
  injection this with e; injection e with e1 e2; subst e1
  exact ⟨ha.1.ext (fun _ _=>rfl) hS,ha.2,fun i hi=>by simp at hi⟩
 | cons x xs ih =>
  intro ys l vs h hl ha
  have step:∀ {ms:List Bool},(match bor1 hp x,bor hp ms xs with | some (y,k),some (ys,l)=>some (y :: ys,k ++ l) | _,_=>none)=some (ys,l)→ArgsOk w Sc ρ ys vs:=by
   intro ms h
   split at h
   ·rename_i y k ys' l' hy hr
    injection h with h; injection h with e1 e2; subst e1 e2
    exact cons ha (fun v hv=>bor1_ok H hy (fun i hi=>hl i (by simp [hi])) hS hB hv) (fun vs hvs=>ih hr (fun i hi=>hl i (by simp [hi])) hvs)
   ·cases h
  cases ms with
  | nil=>exact step h
  | cons b ms =>
   cases b with
   | false=>exact step h
   | true =>
    simp only [bor] at h
    split at h
    ·rename_i ys' l' hr
     injection h with h; injection h with e1 e2; subst e1 e2
     exact cons ha (fun v hv=>ext hv) (fun vs hvs=>ih hr hl hvs)
    ·cases h
end
end Go.Proofs.YtakolikdebfkeaaDoor
namespace Go.Proofs.YtakolikdebfkeaaDoor
open Go.RowKit
def tau (n:Nat) (ids:List Nat) (N:Nat) (j:Nat):Option Nat:=if j<ids.length then ids[j]? else if j<N then some (n+(j - ids.length)) else none
def lentO (hp:List AObj) (ids:List Nat):Option (List AObj):=mapO (fun i=>match hp[i]? with
 | some o=>renObj (posOf ids) o
 | none=>none) ids
def okIds (ids brw:List Nat):Bool:=nodupB ids && ids.all fun i=>!brw.contains i
def flatOs:List AObj→Prop
 | []=>True
 | o :: r=>flatO o∧flatOs r
theorem flatOs_ok:∀ {l:List AObj},flatOs l→∀ (j:Nat) (o:AObj),l[j]?=some o→flatO o:=by
 intro l
 induction l with
 | nil=>intro _ j o h; simp at h
 | cons a l ih =>
  intro h j o ho
  cases j with
  | zero=>simp only [List.getElem?_cons_zero,Option.some.injEq] at ho; subst ho; exact h.1
  | succ j=>exact ih h.2 j o (by simpa using ho)
def flatC (brw:List Nat) (v:AV) (os:List AObj):Option Prop:=if brw.isEmpty then some True else if flatB 4 v then some (flatOs os) else none
section
variable {P : Program} {F : Nat → Prop} {w0 w : World} {S : Nat → Prop} {ρ : Rho} {hp hpM hp2 hc os : List AObj}
theorem call_gen {T:Value→Ending} {f:FuncId} {sp:Spec} {m:List Bool} {«as» as1 as2:List AV} {brw ids:List Nat} {r:Ret} {x:AV} {q:Prop} {n:Nat} {args:List Value} (hf:FnT T P f sp) (H:HeapOk F w0 S ρ hp w)
  (hM:∀ (i:Nat) (o:AObj),hpM[i]?=some o→o≠.gone→hp[i]?=some o) (ha:ArgsOk w S ρ «as» args) (h1:bor hpM m «as»=some (as1,brw)) (h2:mapO (ren (posOf ids) 4) as1=some as2)
  (h3:lentO hp ids=some hc) (h4:okIds ids brw=true) (h5:sp as2 hc=some r) (hpre:r.pre) (h6:ren (tau n ids r.hp.length) 4 r.v=some x) (h7:mapO (renObj (tau n ids r.hp.length)) r.hp=some os)
  (h8:flatC brw r.v r.hp=some q) (hq:q)
  (hb:∀ (k:Nat) (o:AObj),hp2[k]?=some o→(∃ j,tau n ids r.hp.length j=some k∧os[j]?=some o)∨(hp[k]?=some o∧∀ j,tau n ids r.hp.length j≠some k))
  (hn:∀ k,n≤k→k<n+(r.hp.length - ids.length)→(∀ v,ρ k v=none)∧k<hp2.length∧∀ i:Nat,ids[i]?≠some k) (hlen:hp.length≤hp2.length) :
  Calls P f args.toArray w fun e w' => ∃ v S' ρ',e=T v∧Vl w' S' ρ' x v∧HeapOk F w0 S' ρ' hp2 w' ∧ Ext w w' S S' ρ ρ' ∧ (∀ b,S' b→S b∨F b∨w0.heap.size≤b):=by
 simp only [okIds,Bool.and_eq_true,List.all_eq_true,Bool.not_eq_true',List.contains_eq_mem,decide_eq_false_iff_not] at h4
 obtain ⟨hnd,hdis⟩:=h4
 have hinj:=nodupB_ok hnd
 generalize hN:r.hp.length=N at *
 obtain ⟨g1,g2⟩:=mapO_get h3
 have lent:∀ (i:Nat) (o:AObj),hc[i]?=some o→∃ k ok,ids[i]?=some k∧hp[k]?=some ok∧renObj (posOf ids) ok=some o∧posOf ids k=some i:=by
  intro i o ho
  have hi:i<ids.length:=by rw [← g1]; exact (List.getElem?_eq_some_iff.1 ho).1
  obtain ⟨o',ho',hr⟩:=g2 i _ (List.getElem?_eq_getElem hi)
  rw [ho] at ho'; injection ho' with ho'; subst ho'
  split at hr
  ·rename_i ok hok
   refine ⟨ids[i],ok,List.getElem?_eq_getElem hi,hok,hr,?_⟩
   cases hp:posOf ids ids[i] with
   | none=>exact absurd (List.getElem?_eq_getElem hi) (posOf_none hp i)
   | some j=>rw [hinj i j _ (List.getElem?_eq_getElem hi) (posOf_ok hp)]
  ·cases hr
 let ρc:Rho:=fun i v=>match ids[i]? with
  | some k=>ρ k v
  | none=>none
 let Sc:Nat→Prop:=fun b=>S b∨Brw ρ hpM brw b
 have hρc:∀ {i k:Nat},ids[i]?=some k→∀ v,ρc i v=ρ k v:=fun {i k} h v=>by simp only [ρc,h]
 have hσ:∀ i j,posOf ids i=some j→∀ v L,ρ i v=some L→ρc j v=some L:=fun i j hij v L h=>by rw [hρc (posOf_ok hij)]; exact h
 have brwHp:∀ b,Brw ρ hpM brw b→∃ id o,id∈brw∧hp[id]?=some o∧o.blk ρ id=some b:=by
  rintro b ⟨id,o,e1,e2,e3⟩
  exact ⟨id,o,e1,hM id o e2 (by rintro rfl; cases e3),e3⟩
 have lentObj:∀ (i:Nat) (o:AObj),hc[i]?=some o→∃ k ok,ids[i]?=some k∧hp[k]?=some ok∧posOf ids k=some i∧ObjOk w Sc ρc i o∧o.ver=ok.ver∧(∀ b,o.blk ρc i=some b→ok.blk ρ k=some b):=by
  intro i o ho
  obtain ⟨k,ok,e1,e2,e3,e4⟩:=lent i o ho
  obtain ⟨k1,k2,k3⟩:=renObj_ok (S' := Sc) (ρ' := ρc) hσ e4 (fun v hv=>by rw [hρc e1]; exact hv) e3 (H.ob k ok e2) (fun b hb hs=>by
   rcases hs with hs | hs
   ·exact hs
   ·obtain ⟨id,o2,d1,d2,d3⟩:=brwHp b hs
    refine absurd hb (H.apart id k o2 ok (fun e=>?_) d2 e2 b d3)
    exact hdis k (List.mem_of_getElem? e1) (e ▸ d1)) (.inl fun b hb=>.inl hb)
  exact ⟨k,ok,e1,e2,e4,k1,k2,k3⟩
 have Hc:HeapOk (Lent ρc hc) w Sc ρc hc w:=by
  refine ⟨Kept.refl _ _,fun i o ho=>?_,fun i j y z hij hy hz b hyb hzb=>?_,fun i o ho b hb=>.inl ⟨i,o,ho,hb⟩,fun b hb=>?_,fun i hi v=>?_,fun i o ho v hv=>?_⟩
  ·obtain ⟨k,ok,e1,e2,e3,e4,e5,e6⟩:=lentObj i o ho; exact e4
  ·obtain ⟨k,ok,e1,e2,e3,e4,e5,e6⟩:=lentObj i y hy
   obtain ⟨k',ok',d1,d2,d3,d4,d5,d6⟩:=lentObj j z hz
   refine H.apart k k' ok ok' (fun e=>?_) e2 d2 b (e6 b hyb) (d6 b hzb)
   subst e; exact hij (hinj i j k e1 d1)
  ·rcases hb with hb | hb
   ·exact H.slt b hb
   ·obtain ⟨id,o,d1,d2,d3⟩:=brwHp b hb
    exact (H.ob id o d2).lt b d3
  ·have:ids[i]?=none:=List.getElem?_eq_none (by omega)
   simp only [ρc,this]
  ·obtain ⟨k,ok,e1,e2,e3,e4,e5,e6⟩:=lentObj i o ho
   rw [hρc e1]; exact H.vers k ok e2 v (by rw [← e5]; exact hv)
 have ha2:ArgsOk w Sc ρc as2 args:=by
  have hb1:=bor_ok (Sc:=Sc) (fun i o ho hne=>H.ob i o (hM i o ho hne)) (brw:=brw) (fun b hb=>.inl hb) (fun b hb=>.inr hb) h1 (fun i hi=>hi) ha
  obtain ⟨m1,m2⟩:=mapO_get h2
  refine ⟨hb1.1,by rw [hb1.2,m1],fun i hi=>?_⟩
  obtain ⟨y,y1,y2⟩:=m2 i _ (List.getElem?_eq_getElem (by omega))
  have:=hb1.3 i (by omega)
  rw [List.getD_eq_getElem?_getD (l:=as1),List.getElem?_eq_getElem (show i<as1.length by omega)] at this
  rw [List.getD_eq_getElem?_getD (l:=as2),y1]
  exact ren_vl hσ y2 this
 have hτin:∀ {j k:Nat},ids[j]?=some k→tau n ids N j=some k:=fun {j k} h=>by
  unfold tau; rw [if_pos (List.getElem?_eq_some_iff.1 h).1]; exact h
 have hτ:∀ {j k:Nat},tau n ids N j=some k→ids[j]?=some k∨(ids.length≤j∧j<N∧k=n+(j - ids.length)):=by
  intro j k h
  unfold tau at h
  split at h
  ·exact .inl h
  ·split at h
   ·injection h with h; exact .inr ⟨by omega,by omega,h.symm⟩
   ·cases h
 obtain ⟨o1,o2⟩:=mapO_get h7
 refine (hf as2 hc r h5 hpre w Sc ρc args Hc ha2).mono ?_
 rintro e w' ⟨v,S',ρ',rfl,hv,Hr,hE,hS2⟩
 have hflat:(∀ b,S' b→S b∨w.heap.size≤b∨Lent ρc hc b)∨(flatB 4 r.v=true∧∀ (j:Nat) (o:AObj),r.hp[j]?=some o→flatO o):=by
  unfold flatC at h8
  split at h8
  ·rename_i he
   left
   intro b hb
   rcases hS2 b hb with h | h | h
   ·rcases h with h | ⟨id,o,d1,_⟩
    ·exact .inl h
    ·rw [List.isEmpty_iff.1 he] at d1; cases d1
   ·exact .inr (.inl h)
   ·exact .inr (.inr h)
  ·split at h8
   ·rename_i hfl
    injection h8 with h8; subst h8
    exact .inr ⟨hfl,flatOs_ok hq⟩
   ·cases h8
 have hnew:∀ {j k:Nat},ids.length≤j→j<N→k=n+(j - ids.length)→(∀ v,ρ k v=none)∧k<hp2.length∧∀ i:Nat,ids[i]?≠some k:=fun {j k} a1 a2 a3=>hn k (by omega) (by omega)
 have hlentB:∀ b,Lent ρc hc b→∃ (k:Nat) (o:AObj) (j:Nat),hp[k]?=some o∧o.blk ρ k=some b∧tau n ids N j=some k:=by
  rintro b ⟨i,o,d1,d2⟩
  obtain ⟨k,ok,e1,e2,e3,e4,e5,e6⟩:=lentObj i o d1
  exact ⟨k,ok,i,e2,e6 b d2,hτin e1⟩
 have hinjT:∀ i j k,tau n ids N i=some k→tau n ids N j=some k→i=j:=by
  intro i j k hi hj
  rcases hτ hi with h | ⟨a1,a2,a3⟩ <;> rcases hτ hj with h' | ⟨b1,b2,b3⟩
  ·exact hinj i j k h h'
  ·exact absurd h ((hnew b1 b2 b3).2.2 i)
  ·exact absurd h' ((hnew a1 a2 a3).2.2 j)
  ·omega
 obtain ⟨M1,M2⟩:=H.merge (τ:=tau n ids N) (hp2:=hp2) Hr (fun b hb=>hE.st b (.inl hb)) (fun b hb=>hE.mem b (.inl hb)) hinjT (fun k o ho=>by
   rcases hb k o ho with ⟨j,j1,j2⟩ | h
   ·left
    have hj:j<r.hp.length:=by rw [← o1]; exact (List.getElem?_eq_some_iff.1 j2).1
    obtain ⟨y,y1,y2⟩:=o2 j _ (List.getElem?_eq_getElem hj)
    rw [j2] at y1; injection y1 with y1; subst y1
    exact ⟨j,_,List.getElem?_eq_getElem hj,j1,y2⟩
   ·exact .inr h) hlentB (fun j k hj v L hL=>by
   rcases hτ hj with h | ⟨a1,a2,a3⟩
   ·exact hE.loc _ _ _ (by rw [hρc h]; exact hL)
   ·rw [(hnew a1 a2 a3).1] at hL; cases hL) (fun j k hj=>by
   rcases hτ hj with h | ⟨a1,a2,a3⟩
   ·left
    have hjl:=(List.getElem?_eq_some_iff.1 h).1
    obtain ⟨o',ho',hr⟩:=g2 j _ h
    split at hr
    ·rename_i ok hok
     exact Nat.lt_of_lt_of_le (List.getElem?_eq_some_iff.1 hok).1 hlen
    ·cases hr
   ·exact .inl (hnew a1 a2 a3).2.1) hlen (hflat.imp id fun h=>h.2)
 refine ⟨v,_,_,rfl,?_,M1,M2,fun b hb=>?_⟩
 ·refine ren_vl (ρ:=ρ') (fun i j hij v L hL=>by rw [rhoM_in hinjT hij]; exact hL) h6 ?_
  rcases hflat with h | h
  ·exact hv.ext ⟨fun _ _=>rfl,fun b hb=>⟨hb,h b hb⟩,fun _ _ _ h=>h⟩
  ·exact flat_vl h.1 hv
 ·rcases hb.2 with h | h | h
  ·exact .inl h
  ·have:=H.kept.size; exact .inr (.inr (by omega))
  ·obtain ⟨k,o,j,d1,d2,d3⟩:=hlentB b h
   exact .inr (H.mine k o d1 b d2)
end
end Go.Proofs.YtakolikdebfkeaaDoor
namespace Go.Proofs.YtakolikdebfkeaaDoor
open Go.RowKit
abbrev Phi:=FuncId→Option (List Bool × Spec)
def FnIn (P : Program) (f : FuncId) : Prop := ∃ fn, P.funcs[f]? = some fn ∧ (fn.name == "runtime.NumGoroutine") = false ∧ fn.body.isNone = false
def PhiT (T:Value→Ending) (P:Program) (Φ:Phi):Prop:=∀ f m sp,Φ f=some (m,sp)→FnT T P f sp∧FnIn P f
def PhiOk (P:Program) (Φ:Phi):Prop:=PhiT .returned P Φ
def setAll:List AObj→List Nat→List AObj→List AObj
 | hp,i :: is,o :: os=>setAll (hp.set i o) is os
 | hp,_,_=>hp
def addNew (l:List Nat):List Nat→List Nat
 | []=>l
 | x :: r=>if l.contains x then addNew l r else addNew (l ++ [x]) r
def idsOf:Nat→AV→List Nat
 | 0,_=>[]
 | d+1,x=>match x with
  | .own id _=>[id]
  | .ownv id _ _ _=>[id]
  | .ref id _ _=>[id]
  | .rowp id _ _ _ _ _=>[id]
  | .agg ps=>ps.flatMap fun p=>idsOf d p.2
  | .tup xs=>xs.flatMap (idsOf d)
  | .fn _ a c=>a.flatMap (idsOf d) ++ c.flatMap (idsOf d)
  | .iface _ x=>idsOf d x
  | .mpv id=>[id]
  | .arv id _ _ _ _=>[id]
  | .arw id _ _ _ _ _ _ _=>[id]
  | _=>[]
def idsObj:AObj→List Nat
 | .cells _ ps=>ps.flatMap fun p=>idsOf 4 p.2
 | .mp _ es=>es.flatMap fun p=>idsOf 4 p.2
 | _=>[]
def closeIds (hp:List AObj):Nat→List Nat→List Nat
 | 0,l=>l
 | d+1,l=>closeIds hp d (addNew l (l.flatMap fun i=>idsObj (hp.getD i .gone)))
def place (hp:List AObj) (ids:List Nat) (os:List AObj):List AObj:=setAll hp ids os ++ os.drop ids.length
def acall3 (n:Nat) (brw ids:List Nat):Option Ret→Option (AV × List Nat × List AObj × Prop)
 | some r=>match ren (tau n ids r.hp.length) 4 r.v,mapO (renObj (tau n ids r.hp.length)) r.hp,flatC brw r.v r.hp with
  | some x,some os,some q=>if ids.length≤r.hp.length then some (x,ids,os,r.pre∧q) else none
  | _,_,_=>none
 | none=>none
def acall2 (hp:List AObj) (n:Nat) (sp:Spec) («as» brw ids:List AV × List Nat):Option (AV × List Nat × List AObj × Prop) :=
 match mapO (ren (posOf ids.2) 4) «as».1,lentO hp ids.2 with
 | some as2,some hc=>if okIds ids.2 brw.2 then acall3 n brw.2 ids.2 (sp as2 hc) else none
 | _,_=>none
def acall1 (hp:List AObj) (n:Nat) (sp:Spec):Option (List AV × List Nat)→Option (AV × List Nat × List AObj × Prop)
 | some («as»,brw)=>acall2 hp n sp («as»,[]) ([],brw) ([],closeIds hp 2 (addNew [] («as».flatMap (idsOf 4))))
 | none=>none
def acall0 (hp:List AObj) (n:Nat) («as»:List AV):Option (List Bool × Spec)→Option (AV × List Nat × List AObj × Prop)
 | some (m,sp)=>acall1 hp n sp (bor hp m «as»)
 | none=>none
section
variable {P : Program} {Φ : Phi} {F : Nat → Prop} {w0 w : World} {S : Nat → Prop} {ρ : Rho} {hp hpM hp2 os : List AObj}
theorem acall0_ok {T:Value→Ending} {f:FuncId} (hΦ:PhiT T P Φ) {«as»:List AV} {args:List Value} {ids:List Nat} {x:AV} {p:Prop} {n:Nat} (h:acall0 hpM n «as» (Φ f)=some (x,ids,os,p)) (hp' : p) (H:HeapOk F w0 S ρ hp w)
  (hM:∀ (i:Nat) (o:AObj),hpM[i]?=some o→o≠.gone→hp[i]?=some o) (hMg:∀ (i:Nat),i∈ids→hpM[i]?=hp[i]?) (ha:ArgsOk w S ρ «as» args)
  (hb:ids.length≤os.length→nodupB ids=true→(∀ i∈ids,i<hp.length)→(∀ (k:Nat) (o:AObj),hp2[k]?=some o→(∃ j,tau n ids os.length j=some k∧os[j]?=some o)∨(hp[k]?=some o∧∀ j,tau n ids os.length j≠some k)) ∧
   (∀ k,n≤k→k<n+(os.length - ids.length)→(∀ v,ρ k v=none)∧k<hp2.length∧∀ i:Nat,ids[i]?≠some k)∧hp.length≤hp2.length) :
  Calls P f args.toArray w fun e w' => ∃ v S' ρ',e=T v∧Vl w' S' ρ' x v∧HeapOk F w0 S' ρ' hp2 w' ∧ Ext w w' S S' ρ ρ' ∧ (∀ b,S' b→S b∨F b∨w0.heap.size≤b):=by
 cases hf:Φ f with
 | none=>rw [hf] at h; cases h
 | some ms =>
  obtain ⟨m,sp⟩:=ms
  rw [hf] at h
  simp only [acall0,acall1] at h
  split at h
  ·rename_i as1 brw hbor
   simp only [acall2] at h
   split at h
   ·rename_i as2 hc h2 h3
    split at h
    ·rename_i h4
     unfold acall3 at h
     split at h
     ·rename_i r h5
      split at h
      ·rename_i x' os' q h6 h7 h8
       split at h
       ·rename_i hle
        simp only [Option.some.injEq,Prod.mk.injEq] at h
        obtain ⟨rfl,rfl,rfl,rfl⟩:=h
        obtain ⟨o1,o2⟩:=mapO_get h7
        have h3' : lentO hp (closeIds hpM 2 (addNew [] (as1.flatMap (idsOf 4))))=some hc:=by
         rw [← h3]
         unfold lentO
         have gen:∀ (σ:Nat→Option Nat) (l:List Nat),(∀ j∈l,hpM[j]?=hp[j]?)→mapO (fun j=>match hp[j]? with | some o=>renObj σ o | none=>none) l=mapO (fun j=>match hpM[j]? with | some o=>renObj σ o | none=>none) l:=by
          intro σ l
          induction l with
          | nil=>intro _; rfl
          | cons a l ih=>intro hh; simp only [mapO]; rw [hh a (by simp),ih (fun j hj=>hh j (by simp [hj]))]
         exact gen _ _ hMg
        have hlt:∀ i∈closeIds hpM 2 (addNew [] (as1.flatMap (idsOf 4))),i<hp.length:=by
         intro i hi
         obtain ⟨j,hj,e⟩:=List.getElem_of_mem hi
         obtain ⟨y,y1,y2⟩:=(mapO_get h3').2 j i (by rw [List.getElem?_eq_getElem hj,e])
         split at y2
         ·rename_i o ho; exact (List.getElem?_eq_some_iff.1 ho).1
         ·cases y2
        have hnd:nodupB (closeIds hpM 2 (addNew [] (as1.flatMap (idsOf 4))))=true:=by
         simp only [okIds,Bool.and_eq_true] at h4; exact h4.1
        obtain ⟨b1,b2,b3⟩:=hb (by rw [o1]; exact hle) hnd hlt
        rw [o1] at b1 b2
        exact call_gen (hΦ f m sp hf).1 H hM ha hbor h2 h3' h4 h5 hp'.1 h6 h7 h8 hp'.2 b1 b2 b3
       ·cases h
      ·cases h
     ·cases h
    ·cases h
   ·cases h
  ·cases h
theorem setAll_get:∀ (ids:List Nat) (os hp:List AObj),nodupB ids=true→(∀ i∈ids,i<hp.length)→ids.length≤os.length→∀ k:Nat,(setAll hp ids os)[k]?=match posOf ids k with
  | some j=>os[j]?
  | none=>hp[k]?:=by
 intro ids
 induction ids with
 | nil=>intro os hp _ _ _ k; simp only [setAll,posOf]
 | cons i is ih =>
  intro os hp hnd hlt hle k
  cases os with
  | nil=>simp at hle
  | cons o os =>
   simp only [nodupB,Bool.and_eq_true,Bool.not_eq_true',List.contains_eq_mem,decide_eq_false_iff_not] at hnd
   simp only [setAll]
   rw [ih os (hp.set i o) hnd.2 (fun j hj=>by rw [List.length_set]; exact hlt j (by simp [hj])) (by simpa using hle) k]
   simp only [posOf]
   by_cases e:i=k
   ·subst e
    have:posOf is i=none:=by
     cases hp:posOf is i with
     | none=>rfl
     | some j=>exact absurd (List.mem_of_getElem? (posOf_ok hp)) hnd.1
    rw [this]
    simp [hlt i (by simp)]
   ·rw [if_neg e]
    cases hp:posOf is k with
    | none=>simp [List.getElem?_set_ne e]
    | some j=>simp
theorem setAll_length:∀ (ids:List Nat) (os hp:List AObj),(setAll hp ids os).length=hp.length:=by
 intro ids
 induction ids with
 | nil=>intro os hp; simp only [setAll]
 | cons i is ih =>
  intro os hp
  cases os with
  | nil=>simp only [setAll]
  | cons o os=>simp only [setAll,ih,List.length_set]
theorem place_ok (H:HeapOk F w0 S ρ hp w) {ids:List Nat} (h1:ids.length≤os.length) (h2:nodupB ids=true) (h3:∀ i∈ids,i<hp.length) :
  (∀ (k:Nat) (o:AObj),(place hp ids os)[k]?=some o→(∃ j,tau hp.length ids os.length j=some k∧os[j]?=some o)∨(hp[k]?=some o∧∀ j,tau hp.length ids os.length j≠some k)) ∧
   (∀ k,hp.length≤k→k<hp.length+(os.length - ids.length)→(∀ v,ρ k v=none)∧k<(place hp ids os).length∧∀ i:Nat,ids[i]?≠some k)∧hp.length≤(place hp ids os).length:=by
 have hl:=setAll_length ids os hp
 refine ⟨fun k o ho=>?_,fun k hk hk2=>⟨H.new k hk,?_,fun i hi=>?_⟩,?_⟩
 ·unfold place at ho
  rcases Nat.lt_or_ge k hp.length with hlt | hge
  ·rw [List.getElem?_append_left (by omega),setAll_get ids os hp h2 h3 h1] at ho
   cases hp:posOf ids k with
   | some j =>
    rw [hp] at ho
    left
    refine ⟨j,?_,ho⟩
    have:=posOf_ok hp
    unfold tau; rw [if_pos (List.getElem?_eq_some_iff.1 this).1]; exact this
   | none =>
    rw [hp] at ho
    right
    refine ⟨ho,fun j hj=>?_⟩
    unfold tau at hj
    split at hj
    ·exact posOf_none hp j hj
    ·split at hj
     ·injection hj with hj; omega
     ·cases hj
  ·rw [List.getElem?_append_right (by omega),hl,List.getElem?_drop] at ho
   left
   refine ⟨ids.length+(k - hp.length),?_,ho⟩
   have:=(List.getElem?_eq_some_iff.1 ho).1
   unfold tau
   rw [if_neg (by omega),if_pos this]
   congr 1; omega
 ·unfold place; rw [List.length_append,hl,List.length_drop]; omega
 ·have:=h3 k (List.mem_of_getElem? hi); omega
 ·unfold place; rw [List.length_append,hl]; omega
end
end Go.Proofs.YtakolikdebfkeaaDoor
namespace Go.Proofs.YtakolikdebfkeaaDoor
open Go.RowKit
def frzH (hp:List AObj):List Nat→Option (List AObj)
 | []=>some hp
 | id :: r=>match hp[id]? with
  | some (.row _ sz v xs)=>if 0<sz then frzH (hp.set id (.froz sz v xs)) r else none
  | some (.froz _ _ _)=>frzH hp r
  | _=>none
def frzS (s:St):List Opd→Option St
 | []=>some s
 | .c _ :: r=>frzS s r
 | .t n :: r=>if pureB 4 (lk s.fr n) then frzS s r else match bor1 s.hp (lk s.fr n) with
  | some (y,l)=>match frzH s.hp l with
   | some hp' => frzS ⟨(n,y) :: s.fr,hp'⟩ r
   | none=>none
  | none=>none
section
variable {P : Program} {F : Nat → Prop} {w0 w : World} {S : Nat → Prop} {ρ : Rho}
theorem frzH_ok:∀ (l:List Nat) {hp hp' : List AObj} {S:Nat→Prop},HeapOk F w0 S ρ hp w→frzH hp l=some hp' →
  ∃ S',HeapOk F w0 S' ρ hp' w∧(∀ b,S b→S' b)∧(∀ b,Brw ρ hp l b→S' b)∧(∀ b,S' b→S b∨F b∨w0.heap.size≤b):=by
 intro l
 induction l with
 | nil =>
  intro hp hp' S H h
  injection h with h; subst h
  exact ⟨S,H,fun _ h=>h,fun b ⟨id,o,h,_⟩=>by simp at h,fun _ h=>.inl h⟩
 | cons id r ih =>
  intro hp hp' S H h
  simp only [frzH] at h
  split at h
  ·rename_i e sz v xs ho
   split at h
   ·rename_i hsz
    obtain ⟨L,us,k1,k2,k3,k4,k5,k6⟩:=H.ob _ _ ho
    subst k3
    have hblk:(AObj.row e L.sz v xs).blk ρ id=ablk L.A:=by simp [AObj.blk,k1]
    have hM:=(k4.mem k2 k5).sl (ρ:=rho0) (Sc:=fun b=>S b∨ablk L.A=some b) hsz (fun b hb=>.inr hb) (fun b hb=>.inl hb)
    obtain ⟨u1,u2⟩:=H.upd (w' := w) (S' := fun b=>S b∨ablk L.A=some b) (ρ' := ρ) (o' := .froz L.sz v xs) ho (World.grownBy.refl w _) (fun b hb=>.inl hb)
     (fun b hb=>hb.elim .inl fun h=>.inr (.inr (by rw [hblk]; exact h))) (fun _ _ _ h=>h) (fun _ _ _=>rfl)
     ⟨L,k1,k2,rfl,hM.sl.ext (fun _ _=>rfl) (fun _ h=>h) (fun _ _ _ h=>h)⟩ (fun v hv=>H.vers _ _ ho v hv) (fun b hb=>by cases hb)
    obtain ⟨S',i1,i2,i3,i4⟩:=ih u1 h
    refine ⟨S',i1,fun b hb=>i2 b (.inl hb),fun b hb=>?_,fun b hb=>?_⟩
    ·obtain ⟨id',o,hin,ho',hb⟩:=hb
     by_cases e:id' = id
     ·subst e
      rw [ho] at ho'; injection ho' with ho'; subst ho'
      rw [hblk] at hb
      exact i2 b (.inr hb)
     ·refine i3 b ⟨id',o,?_,by rw [List.getElem?_set_ne (Ne.symm e)]; exact ho',hb⟩
      rcases List.mem_cons.1 hin with h | h
      ·exact absurd h e
      ·exact h
    ·rcases i4 b hb with (h | h) | h
     ·exact .inl h
     ·exact .inr (H.mine _ _ ho b (by rw [hblk]; exact h))
     ·exact .inr h
   ·cases h
  ·rename_i sz v xs ho
   obtain ⟨S',i1,i2,i3,i4⟩:=ih H h
   refine ⟨S',i1,i2,fun b hb=>?_,i4⟩
   obtain ⟨id',o,hin,ho',hb⟩:=hb
   rcases List.mem_cons.1 hin with e | hin
   ·subst e
    rw [ho] at ho'; injection ho' with ho'; subst ho'
    cases hb
   ·exact i3 b ⟨id',o,hin,ho',hb⟩
  ·cases h
theorem frzS_ok {a:Act}:∀ (ps:List Opd) {s s' : St} {S:Nat→Prop},HeapOk F w0 S ρ s.hp w→FrOk w S ρ s.fr a.tmps→frzS s ps=some s' →
  ∃ S',HeapOk F w0 S' ρ s'.hp w∧FrOk w S' ρ s'.fr a.tmps∧(∀ b,S b→S' b)∧(∀ b,S' b→S b∨F b∨w0.heap.size≤b):=by
 intro ps
 induction ps with
 | nil=>intro s s' S H hf h; injection h with h; subst h; exact ⟨S,H,hf,fun _ h=>h,fun _ h=>.inl h⟩
 | cons x r ih =>
  intro s s' S H hf h
  cases x with
  | c x=>exact ih H hf h
  | t n =>
   simp only [frzS] at h
   split at h
   ·exact ih H hf h
   ·split at h
    ·rename_i y l hb
     split at h
     ·rename_i hp' hz
      obtain ⟨S1,i1,i2,i3,i4⟩:=frzH_ok l H hz
      have hv:=bor1_ok (Sc:=S1) H.obs hb (brw:=l) (fun _ h=>h) i2 i3 (hf.2 n)
      obtain ⟨S',j1,j2,j3,j4⟩:=ih (s:=⟨(n,y) :: s.fr,hp'⟩) i1 ⟨hf.1.ext (fun _ _=>rfl) i2,fun t=>by
       simp only [lk]
       split
       ·rename_i e; subst e; exact hv
       ·exact (hf.2 t).ext ⟨fun _ _=>rfl,i2,fun _ _ _ h=>h⟩⟩ h
      exact ⟨S',j1,j2,fun b hb=>j3 b (i2 b hb),fun b hb=>(j4 b hb).elim (i4 b) .inr⟩
     ·cases h
    ·cases h
theorem frzS_congr:∀ (ps:List Opd) {s s' : St},s.hp=s'.hp→(∀ t∈ps.flatMap fun x=>match x with | .t n=>[n] | .c _=>[],lk s.fr t=lk s'.fr t) →
  (frzS s ps=none∧frzS s' ps=none)∨∃ z z',frzS s ps=some z∧frzS s' ps=some z' ∧ z.hp=z'.hp∧∀ t,lk s.fr t=lk s'.fr t→lk z.fr t=lk z'.fr t:=by
 intro ps
 induction ps with
 | nil=>intro s s' hp h; exact .inr ⟨s,s',rfl,rfl,hp,fun t ht=>ht⟩
 | cons x r ih =>
  intro s s' hp h
  cases x with
  | c x=>exact ih hp fun t ht=>h t (by simpa using ht)
  | t n =>
   have hn:lk s.fr n=lk s'.fr n:=h n (by simp)
   have hr:=fun t (ht:t∈r.flatMap fun x=>match x with | .t n=>[n] | .c _=>[])=>h t (by rw [List.flatMap_cons]; exact List.mem_append_right _ ht)
   simp only [frzS,← hn,← hp]
   split
   ·exact ih hp hr
   ·split
    ·rename_i y l hb
     split
     ·rename_i hp' hz
      have ih' := ih (s:=⟨(n,y) :: s.fr,hp'⟩) (s' := ⟨(n,y) :: s'.fr,hp'⟩) rfl fun t ht=>by
       simp only [lk]; split
       ·rfl
       ·exact hr t ht
      rcases ih' with h' | ⟨z,z',z1,z2,z3,z4⟩
      ·exact .inl h'
      ·refine .inr ⟨z,z',z1,z2,z3,fun t ht=>z4 t ?_⟩
       simp only [lk]; split
       ·rfl
       ·exact ht
     ·exact .inl ⟨rfl,rfl⟩
    ·exact .inl ⟨rfl,rfl⟩
end
structure AOper where
 dst:Option Nat
 op:AOp
 grd:Option (Nat × Bool)
def St.put (s:St) (d:Option Nat) (x:AV) (hp:List AObj):St :=
 match d with
 | some t=>⟨(t,x) :: s.fr,hp⟩
 | none=>⟨s.fr,hp⟩
def stV (s:St):Option (AV × Prop)→Option (AV × List AObj × Prop)
 | some (x,p)=>some (x,s.hp,p)
 | none=>none
def stN (s:St):Option ((Nat→AV) × AObj × Prop)→Option (AV × List AObj × Prop)
 | some (xf,o,p)=>some (xf s.hp.length,s.hp ++ [o],p)
 | none=>none
def stE (s:St):Option (AV × Nat × AObj × Prop)→Option (AV × List AObj × Prop)
 | some (x,id,o,p)=>some (x,s.hp.set id o,p)
 | none=>none
def stC (s:St):Option (AV × List Nat × List AObj × Prop)→Option (AV × List AObj × Prop)
 | some (x,ids,os,p)=>some (x,place s.hp ids os,p)
 | none=>none
def astep (Φ:Phi) (s:St):AOp→Option (AV × List AObj × Prop)
 | .call f args=>stC s (acall0 s.hp s.hp.length (args.map s.ev) (Φ f))
 | .callv g args=>match s.ev g with
  | .fn (.func f) [] cap=>if cap.all AV.one=true then stC s (acall0 s.hp s.hp.length (args.map s.ev ++ cap) (Φ f)) else none
  | _=>none
 | .app e sz b x y=>match aeff s (.app e sz b x y) with
  | some r=>stE s (some r)
  | none=>stN s (anew s (.app e sz b x y))
 | .appS e x y=>match aeff s (.appS e x y) with
  | some r=>stE s (some r)
  | none=>stN s (anew s (.appS e x y))
 | .st rt a x=>stE s (aeff s (.st rt a x))
 | .mark x=>stE s (aeff s (.mark x))
 | .new t ps=>stN s (anew s (.new t ps))
 | .box t sz x=>stN s (anew s (.box t sz x))
 | .buildSl e sz ps=>match frzS s ps with
  | some s' => stN s' (anew s' (.buildSl e sz ps))
  | none=>none
 | .mkSl e sz b z l c=>stN s (anew s (.mkSl e sz b z l c))
 | .bytes e x=>stN s (anew s (.bytes e x))
 | .mkMap ks=>stN s (anew s (.mkMap ks))
 | .mput ks m x v=>stE s (aeff s (.mput ks m x v))
 | op=>stV s (aval s op)
def MtA (P:Program) (op:Op):AOp→Prop
 | .call f args=>∃ A ts,op=.call { callee:=.value (.func f),args:=A,argTypes:=ts }∧args=A.toList.map opd
 | .callv g args=>∃ G A ts,op=.call { callee:=.value G,args:=A,argTypes:=ts }∧g=opd G∧args=A.toList.map opd
 | .callP f args=>∃ A ts,op=.call { callee:=.value (.func f),args:=A,argTypes:=ts }∧args=A.toList.map opd
 | .st rt a x=>∃ t A X,op=.store t A X∧RtOk P t rt∧a=opd A∧x=opd X
 | .app e sz b x y=>Mt2 P op (.app e sz b x y)
 | .appS e x y=>Mt2 P op (.appS e x y)
 | .new t ps=>Mt2 P op (.new t ps)
 | .box t sz x=>Mt2 P op (.box t sz x)
 | .buildSl e sz ps=>Mt2 P op (.buildSl e sz ps)
 | .mkSl e sz b z l c=>Mt2 P op (.mkSl e sz b z l c)
 | .bytes e x=>Mt2 P op (.bytes e x)
 | .mark x=>Mt2 P op (.mark x)
 | .mkMap ks=>Mt2 P op (.mkMap ks)
 | .mput ks m x v=>Mt2 P op (.mput ks m x v)
 | ao=>Mt P op ao
structure RelS (F:Nat→Prop) (w0:World) (S0:Nat→Prop) (ρ0:Rho) (N:Nat) (ds:List Deferred) (S:Nat→Prop) (ρ:Rho) (s:St) (a:Act) (w:World):Prop where
 heap:HeapOk F w0 S ρ s.hp w
 fr:FrOk w S ρ s.fr a.tmps
 size:a.tmps.size=N
 dfr:a.defers=ds
 sin:∀ b,S b→S0 b∨F b∨w0.heap.size≤b
 ext:Ext w0 w S0 S ρ0 ρ
def Rel (F:Nat→Prop) (w0:World) (S0:Nat→Prop) (ρ0:Rho) (N:Nat) (ds:List Deferred) (s:St) (a:Act) (w:World):Prop:=∃ S ρ,RelS F w0 S0 ρ0 N ds S ρ s a w
section
variable {P : Program} {Φ : Phi} {F : Nat → Prop} {w0 w : World} {S0 S : Nat → Prop} {ρ0 ρ : Rho} {N : Nat} {ds : List Deferred} {s : St} {a : Act}
theorem put_size (a:Act) (d:Option Nat) (v:Value):(a.put d v).tmps.size=a.tmps.size:=by cases d <;> simp [Act.put]
theorem put_defers (a:Act) (d:Option Nat) (v:Value):(a.put d v).defers=a.defers:=by cases d <;> rfl
theorem RelS.next {w' : World} {S' : Nat→Prop} {ρ' : Rho} {hp' : List AObj} {x:AV} {v:Value} {d:Option Nat} (R:RelS F w0 S0 ρ0 N ds S ρ s a w) (H:HeapOk F w0 S' ρ' hp' w') (hE:Ext w w' S S' ρ ρ') (hS:∀ b,S' b→S b∨F b∨w0.heap.size≤b)
  (hd:∀ t,d=some t→t<N) (hv:Vl w' S' ρ' x v):RelS F w0 S0 ρ0 N ds S' ρ' (s.put d x hp') (a.put d v) w' := by
 refine ⟨by cases d <;> exact H,?_,by rw [put_size]; exact R.size,by rw [put_defers]; exact R.dfr,fun b hb=>?_,R.ext.trans hE⟩
 ·cases d with
  | none=>exact R.fr.ext hE
  | some t =>
   have:=(R.fr.ext hE).put (d:=t) (by rw [R.size]; exact hd t rfl) hv
   exact this
 ·rcases hS b hb with h | h
  ·exact R.sin b h
  ·exact .inr h
theorem run_call {o : Oper} {G : Operand} {A : Array Operand} {ts : Array TypeId} {f : FuncId} {cap : Array Value} (ho : o.op = .call { callee := .value G, args := A, argTypes := ts }) (hG : a.eval G = .func (.func f) #[] cap) (hf : FnIn P f) :
  (execOp a.eval o).run P w = .ok (.enter f (A.map a.eval ++ cap)) w := by
 obtain ⟨fn, h1, h2, h3⟩ := hf
 have h2' : ¬ fn.name = "runtime.NumGoroutine" := by simpa using h2
 have h3' : ¬ fn.body = none := by intro e; rw [e] at h3; cases h3
 simp [execOp, ho, resolve, hG, Deferred.ofValue, invoke, callFunc, program, Sem.run, h1, h2', h3']
theorem args_ok (hf:FrOk w S ρ s.fr a.tmps) (A:List Operand):ArgsOk w S ρ ((A.map opd).map s.ev) (A.map a.eval):=by
 refine ⟨hf.1,by simp,fun i hi=>?_⟩
 simp only [List.length_map] at hi
 have h1:((A.map opd).map s.ev).getD i .top=s.ev (opd A[i]):=by
  rw [List.getD_eq_getElem?_getD,List.getElem?_map,List.getElem?_map,List.getElem?_eq_getElem hi]; rfl
 have h2:(A.map a.eval).getD i undef=a.eval A[i]:=by
  rw [List.getD_eq_getElem?_getD,List.getElem?_map,List.getElem?_eq_getElem hi]; rfl
 rw [h1,h2]
 exact ev_ok hf _
theorem ArgsOk.append {xs ys:List AV} {us vs:List Value} (h:ArgsOk w S ρ xs us) (k:ArgsOk w S ρ ys vs):ArgsOk w S ρ (xs ++ ys) (us ++ vs):=by
 refine ⟨h.1,by simp [h.2,k.2],fun i hi=>?_⟩
 have hl:=h.2
 rcases Nat.lt_or_ge i xs.length with h1 | h1
 ·have:=h.3 i h1
  simp only [List.getD_eq_getElem?_getD] at this ⊢
  rw [List.getElem?_append_left h1,List.getElem?_append_left (by omega)]; exact this
 ·have:=k.3 (i - xs.length) (by rw [List.length_append] at hi; omega)
  simp only [List.getD_eq_getElem?_getD] at this ⊢
  rw [List.getElem?_append_right h1,List.getElem?_append_right (by omega),hl]; exact this
theorem step_call (hΦ:PhiOk P Φ) {o:Oper} {f:FuncId} {«as»:List AV} {args:List Value} {x:AV} {hp2:List AObj} {p:Prop} {K:Act→World→Prop} {Q:Exit→Act→World→Prop} (R:RelS F w0 S0 ρ0 N ds S ρ s a w) (h:stC s (acall0 s.hp s.hp.length «as» (Φ f))=some (x,hp2,p)) (hp' : p) (ha:ArgsOk w S ρ «as» args)
  (hrun:FnIn P f→(execOp a.eval o).run P w=.ok (.enter f args.toArray) w) (hd:∀ t,o.dst=some t→t<N) (hK:∀ a' w',Rel F w0 S0 ρ0 N ds (s.put o.dst x hp2) a' w' → K a' w'):o.wp P a w K Q:=by
 unfold stC at h
 split at h
 ·rename_i x' ids os p' hc
  simp only [Option.some.injEq,Prod.mk.injEq] at h
  obtain ⟨rfl,rfl,rfl⟩:=h
  have hin:FnIn P f:=by
   cases hf:Φ f with
   | none=>rw [hf] at hc; cases hc
   | some ms=>exact (hΦ f ms.1 ms.2 hf).2
  unfold Oper.wp
  rw [hrun hin,Oper.upon_enter]
  refine (acall0_ok hΦ hc hp' R.heap (fun _ _ h _=>h) (fun _ _=>rfl) ha (fun h1 h2 h3=>place_ok R.heap h1 h2 h3)).mono ?_
  rintro e w' ⟨v,S',ρ',rfl,hv,H',hE,hS⟩
  exact hK _ _ ⟨S',ρ',R.next H' hE hS hd hv⟩
 ·cases h
theorem step_val {o:Oper} {r:Option (AV × Prop)} {x:AV} {hp2:List AObj} {p:Prop} {K:Act→World→Prop} {Q:Exit→Act→World→Prop} (R:RelS F w0 S0 ρ0 N ds S ρ s a w) (h:stV s r=some (x,hp2,p)) (hp' : p) (hd:∀ t,o.dst=some t→t<N)
  (hr:∀ x p,r=some (x,p)→p→∃ q,(execOp a.eval o).run P w=.ok (.value q) w∧Vl w S ρ x q) (hK:∀ a' w',Rel F w0 S0 ρ0 N ds (s.put o.dst x hp2) a' w' → K a' w'):o.wp P a w K Q:=by
 cases r with
 | none=>cases h
 | some r =>
  obtain ⟨x',p'⟩:=r
  simp only [stV,Option.some.injEq,Prod.mk.injEq] at h
  obtain ⟨rfl,rfl,rfl⟩:=h
  obtain ⟨q,hq,hv⟩:=hr _ _ rfl hp'
  unfold Oper.wp
  rw [hq,Oper.upon_value]
  exact hK _ _ ⟨S,ρ,R.next R.heap (Ext.refl _ _ _) (fun _ h=>.inl h) hd hv⟩
theorem step_newF {o:Oper} {ao:AOp} {x:AV} {hp2:List AObj} {p:Prop} {K:Act→World→Prop} {Q:Exit→Act→World→Prop} (R:RelS F w0 S0 ρ0 N ds S ρ s a w) {fr:List (Nat × AV)} (hfr:FrOk w S ρ fr a.tmps) (hm:Mt2 P o.op ao) (h:stN ⟨fr,s.hp⟩ (anew ⟨fr,s.hp⟩ ao)=some (x,hp2,p)) (hp' : p) (hd:∀ t,o.dst=some t→t<N)
  (hK:∀ a' w',Rel F w0 S0 ρ0 N ds (s.put o.dst x hp2) a' w' → K a' w'):o.wp P a w K Q:=by
 unfold stN at h
 split at h
 ·rename_i xf ob p' hn
  simp only [Option.some.injEq,Prod.mk.injEq] at h
  obtain ⟨rfl,rfl,rfl⟩:=h
  obtain ⟨v,w',hrun,hb,hver,hid⟩:=anew_ok (s:=⟨fr,s.hp⟩) R.heap.obs R.heap.slt hfr hm hn hp'
  obtain ⟨L,h1,h2,h3⟩:=hid s.hp.length (R.heap.new _ (Nat.le_refl _))
  obtain ⟨H',hE⟩:=R.heap.push (S' := S) (ρ' := rset ρ s.hp.length 0 L) hb (fun _ h=>h) (fun _ h=>.inl h) (rset_mono (R.heap.new _ (Nat.le_refl _)) L) (fun i u hi=>rset_ne _ _ _ _ (fun e=>hi e.1)) h1
   (fun u hu=>by rw [hver] at hu; rw [rset_ne _ _ _ _ (fun e=>by omega)]; exact R.heap.new _ (Nat.le_refl _) u) h3
  unfold Oper.wp
  rw [hrun,Oper.upon_value]
  exact hK _ _ ⟨S,_,R.next H' hE (fun _ h=>.inl h) hd h2⟩
 ·cases h
theorem step_new {o:Oper} {ao:AOp} {x:AV} {hp2:List AObj} {p:Prop} {K:Act→World→Prop} {Q:Exit→Act→World→Prop} (R:RelS F w0 S0 ρ0 N ds S ρ s a w) (hm:Mt2 P o.op ao) (h:stN s (anew s ao)=some (x,hp2,p)) (hp' : p) (hd:∀ t,o.dst=some t→t<N)
  (hK:∀ a' w',Rel F w0 S0 ρ0 N ds (s.put o.dst x hp2) a' w' → K a' w'):o.wp P a w K Q:=step_newF R R.fr hm h hp' hd hK
theorem step_eff {o:Oper} {ao:AOp} {x:AV} {hp2:List AObj} {p:Prop} {K:Act→World→Prop} {Q:Exit→Act→World→Prop} (R:RelS F w0 S0 ρ0 N ds S ρ s a w) (hm:Mt2 P o.op ao∨∃ t A X rt,ao=.st rt (opd A) (opd X)∧o.op=.store t A X∧RtOk P t rt) (h:stE s (aeff s ao)=some (x,hp2,p)) (hp' : p) (hd:∀ t,o.dst=some t→t<N)
  (hK:∀ a' w',Rel F w0 S0 ρ0 N ds (s.put o.dst x hp2) a' w' → K a' w'):o.wp P a w K Q:=by
 unfold stE at h
 split at h
 ·rename_i x' id ob p' hn
  simp only [Option.some.injEq,Prod.mk.injEq] at h
  obtain ⟨rfl,rfl,rfl⟩:=h
  obtain ⟨q,w',ρ',hrun,hv,H',hE⟩:=aeff_ok R.heap R.fr hm hn hp'
  unfold Oper.wp
  rcases hrun with hrun | ⟨hrun,rfl⟩
  ·rw [hrun,Oper.upon_value]
   exact hK _ _ ⟨S,ρ',R.next H' hE (fun _ h=>.inl h) hd hv⟩
  ·rw [hrun,Oper.upon_skip]
   exact hK _ _ ⟨S,ρ',R.next H' hE (fun _ h=>.inl h) hd hv⟩
 ·cases h
theorem astep_ok (hΦ:PhiOk P Φ) {o:Oper} {ao:AOp} {x:AV} {hp2:List AObj} {p:Prop} {K:Act→World→Prop} {Q:Exit→Act→World→Prop} (R:Rel F w0 S0 ρ0 N ds s a w) (hm:MtA P o.op ao) (h:astep Φ s ao=some (x,hp2,p)) (hp' : p) (hd:∀ t,o.dst=some t→t<N)
  (hK:∀ a' w',Rel F w0 S0 ρ0 N ds (s.put o.dst x hp2) a' w' → K a' w'):o.wp P a w K Q:=by
 obtain ⟨S,ρ,R⟩:=R
 have val:∀ {ao:AOp},Mt P o.op ao→stV s (aval s ao)=some (x,hp2,p)→o.wp P a w K Q:=fun hm h=>step_val R h hp' hd (fun x p e hq=>aval_ok R.heap.obs R.fr hm e hq) hK
 cases ao <;> simp only [astep,MtA] at h hm
 case call f args =>
  obtain ⟨A,ts,ho,rfl⟩:=hm
  refine step_call hΦ R h hp' (args_ok R.fr A.toList) (fun hf=>?_) hd hK
  have:=run_call (w:=w) ho (show a.eval (.func f)=.func (.func f) #[] #[] from rfl) hf
  rw [this]; congr 2; apply Array.ext'; simp
 case callv g args =>
  obtain ⟨G,A,ts,ho,rfl,rfl⟩:=hm
  split at h
  ·rename_i f cap hg
   split at h
   ·rename_i hone
    rw [List.all_eq_true] at hone
    have hG:=ev_ok R.fr G
    rw [hg] at hG
    obtain ⟨cv,hcv,hca⟩:∃ cv:List Value,a.eval G=.func (.func f) #[] cv.toArray∧ArgsOk w S ρ cap cv:=by
     rcases hG with e | ⟨us,hc,e⟩
     ·cases e
     ·cases hc with
      | fn _ _ _ us vs h1 h2 h3 h4 =>
       have:us=[]:=List.eq_nil_of_length_eq_zero (by simpa using h1)
       subst this
       refine ⟨vs,e,R.fr.1,h2,fun i hi=>?_⟩
       have:=h4 i hi
       have hm1:(cap.getD i .top).one=true:=by
        rw [List.getD_eq_getElem?_getD,List.getElem?_eq_getElem hi]
        exact hone _ (List.getElem_mem hi)
       refine Vl1.vl (.inr ⟨_,this,?_⟩)
       have hm:(cap.getD i .top).multi=false:=by
        cases hx:cap.getD i .top <;> rw [hx] at hm1 <;> first | rfl | cases hm1
       unfold wrapv; rw [hm]; rfl
    refine step_call hΦ R h hp' ((args_ok R.fr A.toList).append hca) (fun hf=>?_) hd hK
    have:=run_call (w:=w) ho hcv hf
    rw [this]; congr 2; apply Array.ext'; simp
   ·cases h
  ·cases h
 case app e sz b x' y' =>
  split at h
  ·rename_i r hr
   rw [← hr] at h
   exact step_eff R (.inl hm) h hp' hd hK
  ·exact step_new R hm h hp' hd hK
 case appS e x' y' =>
  split at h
  ·rename_i r hr
   rw [← hr] at h
   exact step_eff R (.inl hm) h hp' hd hK
  ·exact step_new R hm h hp' hd hK
 case st rt a' x' =>
  obtain ⟨t,A,X,ho,ht,rfl,rfl⟩:=hm
  exact step_eff R (.inr ⟨t,A,X,rt,rfl,ho,ht⟩) h hp' hd hK
 case mark=>exact step_eff R (.inl hm) h hp' hd hK
 case new=>exact step_new R hm h hp' hd hK
 case box=>exact step_new R hm h hp' hd hK
 case buildSl =>
  split at h
  ·rename_i s' hs'
   obtain ⟨S',j1,j2,j3,j4⟩:=frzS_ok _ R.heap R.fr hs'
   have R1:RelS F w0 S0 ρ0 N ds S' ρ ⟨s.fr,s'.hp⟩ a w:=⟨j1,R.fr.ext ⟨fun _ _=>rfl,j3,fun _ _ _ h=>h⟩,R.size,R.dfr,fun b hb=>(j4 b hb).elim (R.sin b) .inr,R.ext.trans ⟨fun _ _=>rfl,j3,fun _ _ _ h=>h⟩⟩
   refine step_newF R1 (fr:=s'.fr) j2 hm h hp' hd fun a' w' R' => hK a' w' ?_
   have e:(⟨s.fr,s'.hp⟩:St).put o.dst x hp2=s.put o.dst x hp2:=by cases o.dst <;> rfl
   rw [← e]; exact R'
  ·cases h
 case mkSl=>exact step_new R hm h hp' hd hK
 case bytes=>exact step_new R hm h hp' hd hK
 case mkMap=>exact step_new R hm h hp' hd hK
 case mput=>exact step_eff R (.inl hm) h hp' hd hK
 case callP=>cases h
 all_goals exact val hm h
end
end Go.Proofs.YtakolikdebfkeaaDoor
