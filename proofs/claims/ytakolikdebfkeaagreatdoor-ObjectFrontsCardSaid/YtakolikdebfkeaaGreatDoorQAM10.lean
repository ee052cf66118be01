import Derived.Test.YtakolikdebfkeaaGreatDoorQAM9
import Derived.Recover
import Derived.Test.YtakolikdebfkeaaGreatDoorChecked
import Derived.Test.YtakolikdebfkeaaGreatDoorQAMS
import Derived.Test.YtakolikdebfkeaaGreatDoorQFInf5
open Nat (reduceDiv reduceMod reduceSub reduceAdd reduceLeDiff reduceEqDiff)
set_option linter.all false
namespace Go.Proofs.YtakolikdebfkeaaGreatDoor
open Go.RowKit
section
variable {P : Program} {F : Nat → Prop} {w0 w w' : World} {S S' S0 : Nat → Prop} {ρ ρ' ρ0 : Rho} {N N' : Nat} {ds ds' : List Deferred} {s s' : St} {a a' : Act} {hp hp' : List AObj}
theorem HeapOk.base (H:HeapOk F w0 S ρ hp w):HeapOk (Lent ρ hp) w S ρ hp w:=⟨Kept.refl _ _,H.ob,H.apart,fun id o h b hb=>.inl ⟨id,o,h,hb⟩,H.slt,H.new,H.vers⟩
theorem HeapOk.unbase (H:HeapOk F w0 S ρ hp w) (H' : HeapOk (Lent ρ hp) w S' ρ' hp' w'):HeapOk F w0 S' ρ' hp' w' := by
 refine ⟨H.kept.cont H'.kept (fun b ⟨id,o,ho,hb⟩=>H.mine id o ho b hb),H'.ob,H'.apart,fun id o h b hb=>?_,H'.slt,H'.new,H'.vers⟩
 rcases H'.mine id o h b hb with ⟨id',o',ho',hb'⟩ | h
 ·exact H.mine id' o' ho' b hb'
 ·exact .inr (Nat.le_trans H.kept.size h)
theorem sin_un (H:HeapOk F w0 S ρ hp w) (h0:∀ b,S b→S0 b∨F b∨w0.heap.size≤b) (h1:∀ b,S' b→S b∨Lent ρ hp b∨w.heap.size≤b):∀ b,S' b→S0 b∨F b∨w0.heap.size≤b:=by
 intro b hb
 rcases h1 b hb with h | ⟨id,o,ho,h⟩ | h
 ·exact h0 b h
 ·exact .inr (H.mine id o ho b h)
 ·exact .inr (.inr (Nat.le_trans H.kept.size h))
theorem fin_ok {fn:Func} {rs:List ARes} {r:Ret} {hp0:List AObj} (hr:All2 (MtR P) fn.results.toList rs) (hfin:finP hp0.length r s (aret s rs)) (H0:∀ id,hp0.length≤id→∀ v,ρ0 id v=none)
  (H:HeapOk F w0 S ρ s.hp w) (hf:FrOk w S ρ s.fr a.tmps) (hs:∀ b,S b→S0 b∨F b∨w0.heap.size≤b) (hE:Ext w0 w S0 S ρ0 ρ) :
  ∃ v,(results fn a.tmps).run P w=.ok v w∧∃ S' ρ',Vl w S' ρ' r.v v∧HeapOk F w0 S' ρ' r.hp w∧Ext w0 w S0 S' ρ0 ρ' ∧ (∀ b,S' b→S0 b∨w0.heap.size≤b∨F b):=by
 unfold finP at hfin
 split at hfin
 ·rename_i x p hx
  obtain ⟨hp1,hfin⟩:=hfin
  generalize closeIds s.hp 2 (addNew (List.range hp0.length) (idsOf 4 x))=ids at hfin
  obtain ⟨i1,i2,i3,i4⟩:=hfin
  obtain ⟨v,hv1,hv2⟩:=aret_ok H.obs hf hr hx hp1
  obtain ⟨H',hσ⟩:=H.restr i2 i4
  refine ⟨v,hv1,S,_,ren_vl hσ i3 hv2,H',⟨hE.mem,hE.st,fun i u L hL=>?_⟩,fun b hb=>?_⟩
  ·have hi:i<hp0.length:=by
    rcases Nat.lt_or_ge i hp0.length with h1 | h1
    ·exact h1
    ·rw [H0 i h1] at hL; cases hL
   have h1:ids[i]?=some i:=by
    have:(ids.take hp0.length)[i]?=some i:=by rw [i1]; simp [hi]
    rw [List.getElem?_take,if_pos hi] at this; exact this
   simp only [h1]
   exact hE.loc _ _ _ hL
  ·rcases hs b hb with h | h | h
   ·exact .inl h
   ·exact .inr (.inr h)
   ·exact .inr (.inl h)
 ·exact hfin.elim
def constPs (ps:List (Nat × AV)):Bool:=ps.all fun p=>constB 4 p.2
def cellsB:AObj→Bool
 | .cells _ ps=>constPs ps
 | _=>false
theorem const_css {w w' : World} {S S' : Nat→Prop} {ρ ρ' : Rho}:∀ {ps:List (Nat × AV)} {us:List Value},constPs ps=true→Css w S ρ ps us→Css w' S' ρ' ps us
 | [],us,_,hc=>hc
 | (s,x) :: ps,us,h,hc=>by
  obtain ⟨u1,u2,rfl,h1,h2,h3⟩:=hc
  simp only [constPs,List.all_cons,Bool.and_eq_true] at h
  exact ⟨u1,u2,rfl,h1,const_cs 4 h.1 h2,const_css h.2 h3⟩
theorem thrown_heap {x:AV} {st:St} {ids:List Nat} {v:Value} {hpD:List AObj} {w1:World} {S1:Nat→Prop} {ρ1:Rho} (H1:HeapOk F w0 S1 ρ1 hpD w1) (h:RelX (Lent ρ1 hpD) w1 S1 ρ1 ds x st ids v a w)
  (ht:st.hp.take hpD.length=hpD) (hids:∀ i∈ids,hpD.length≤i) (hcells:∀ o∈hpD,cellsB o=true) :
  ∃ ρ3,HeapOk (Lent ρ1 hpD) w1 S1 ρ3 hpD w∧Ext w1 w S1 S1 ρ1 ρ3 ∧
   ∀ t i:Nat,i<hpD.length→lk st.fr t=.ref i 0 0→Vl w S1 ρ3 (.ref i 0 0) (a.tmps.getD t undef):=by
 obtain ⟨hv,hdf,wA,S,ρ,H3,hK,hE,hf⟩:=h
 have at_:∀ (i:Nat) (o:AObj),hpD[i]?=some o→st.hp[i]?=some o:=by
  intro i o ho
  have hi:i<hpD.length:=(List.getElem?_eq_some_iff.1 ho).1
  rw [← ht,List.getElem?_take,if_pos hi] at ho; exact ho
 have keepB:∀ (i:Nat) (o:AObj) (b:Nat),hpD[i]?=some o→o.blk ρ i=some b→w.heap[b]?=wA.heap[b]?:=by
  intro i o b ho hb
  refine hK.block b ((H3.ob i o (at_ i o ho)).lt b hb) fun ⟨id,o',hid,ho',hb'⟩=>?_
  have hi:i<hpD.length:=(List.getElem?_eq_some_iff.1 ho).1
  have:=hids id hid
  exact H3.apart i id o o' (by omega) (at_ i o ho) ho' b hb hb'
 have keepS:∀ b,S1 b→w.heap[b]?=w1.heap[b]?:=by
  intro b hb
  rw [hK.block b (Nat.lt_of_lt_of_le (H1.slt b hb) H3.kept.size) (fun ⟨id,o',hid,ho',hb'⟩=>(H3.ob id o' ho').notS b hb' (hE.st b hb))]
  exact hE.mem b hb
 let ρ3:Rho:=fun i v=>if i<hpD.length then ρ i v else none
 have hρ:∀ {i:Nat},i<hpD.length→∀ v,ρ3 i v=ρ i v:=fun h v=>if_pos h
 have blkE:∀ (i:Nat) (o:AObj),i<hpD.length→o.blk ρ3 i=o.blk ρ i:=by
  intro i o hi
  cases o <;> simp only [AObj.blk,hρ hi]
 have hsz:w1.heap.size≤w.heap.size:=Nat.le_trans H3.kept.size hK.size
 refine ⟨ρ3,⟨H3.kept.cont hK (fun b ⟨id,o,_,ho,hb⟩=>H3.mine id o ho b hb),fun i o ho=>?_,fun i j y z hij hy hz b hyb hzb=>?_,fun i o ho b hb=>?_,fun b hb=>Nat.lt_of_lt_of_le (H1.slt b hb) hsz,fun i hi v=>if_neg (by omega),fun i o ho v hv=>?_⟩,⟨keepS,fun _ h=>h,fun i v L hL=>?_⟩,fun t i hi hl=>?_⟩
 ·have hi:i<hpD.length:=(List.getElem?_eq_some_iff.1 ho).1
  have hob:=H3.ob i o (at_ i o ho)
  have hc:=hcells o (List.mem_of_getElem? ho)
  cases o with
  | cells t ps =>
   obtain ⟨g,us,q1,q2,q3,q4⟩:=hob
   refine ⟨g,us,by rw [hρ hi]; exact q1,?_,const_css hc q3,fun hs=>q4 (hE.st g hs)⟩
   rw [keepB i _ g ho (by simp [AObj.blk,q1,ablk])]; exact q2
  | _=>cases hc
 ·have hi:i<hpD.length:=(List.getElem?_eq_some_iff.1 hy).1
  have hj:j<hpD.length:=(List.getElem?_eq_some_iff.1 hz).1
  rw [blkE i y hi] at hyb
  rw [blkE j z hj] at hzb
  exact H3.apart i j y z hij (at_ i y hy) (at_ j z hz) b hyb hzb
 ·have hi:i<hpD.length:=(List.getElem?_eq_some_iff.1 ho).1
  rw [blkE i o hi] at hb
  exact H3.mine i o (at_ i o ho) b hb
 ·have hi:i<hpD.length:=(List.getElem?_eq_some_iff.1 ho).1
  rw [hρ hi]
  exact H3.vers i o (at_ i o ho) v hv
 ·have hi:i<hpD.length:=by
   rcases Nat.lt_or_ge i hpD.length with h1 | h1
   ·exact h1
   ·rw [H1.new i h1] at hL; cases hL
  rw [hρ hi]; exact hE.loc _ _ _ hL
 ·have h1:=hf.2 t
  rw [hl] at h1
  obtain ⟨us,hc,e⟩:=h1.cs (by simp) (by simp)
  refine Vl1.vl (.inr ⟨us,?_,e⟩)
  cases hc with
  | ref _ _ _ g L k1 k2=>exact .ref _ _ _ g L (by rw [hρ hi]; exact k1) k2
end
section
variable {P : Program} {w : World} {a : Act}
theorem run_mkfn3 {o:Oper} {g t0 t1 t2:Nat} (h:o.op=.makeFunc (.func g) #[] #[.tmp t0,.tmp t1,.tmp t2]) :
  (execOp a.eval o).run P w=.ok (.value (.func (.func g) #[] #[a.eval (.tmp t0),a.eval (.tmp t1),a.eval (.tmp t2)])) w:=by
 simp [execOp,h,Instr.makeFunc]
theorem run_dfr {o:Oper} {g t9:Nat} {caps:Array Value} {ts:Array TypeId} (h:o.op=.defer { callee:=.value (.tmp t9),args:=#[],argTypes:=ts }) (he:a.eval (.tmp t9)=.func (.func g) #[] caps) :
  (execOp a.eval o).run P w=.ok (.defer { target:=.fn (.func g) caps,args:=#[] }) w:=by
 simp [execOp,h,he,resolve,Deferred.ofValue]
theorem run_leave {g : Nat} {caps : Array Value} (hf : FnIn P g) : (invoke (.fn (.func g) caps) #[]).run P w = .ok (.enter g caps) w := by
 obtain ⟨fn, h1, h2, h3⟩ := hf
 have h2' : ¬ fn.name = "runtime.NumGoroutine" := by simpa using h2
 have h3' : ¬ fn.body = none := by intro e; rw [e] at h3; cases h3
 simp [invoke, callFunc, program, Sem.run, h1, h2', h3']
def slimN (any:List Nat) (P:Program) (N:Nat):Code→Option ACode
 | .skip=>some .skip
 | .label _=>some .skip
 | .region _ ops false=>(mapO (slimOper P N ops) ops.toList).map (.reg none)
 | .region id ops true=>match mapO (slimOper P N ops) ops.toList with
  | some l=>if any.contains id then (anyHid P ops l).map fun hid=>.reg (some hid) l else (drawHidG true P ops l).map fun hid=>.reg (some hid) l
  | none=>none
 | .seq x y=>match slimN any P N x,slimN any P N y with
  | some x',some y' => some (.seq x' y')
  | _,_=>none
 | .cond c x y=>match slimN any P N x,slimN any P N y with
  | some x',some y' => some (.cond (opd c) x' y')
  | _,_=>none
 | .block i c=>(slimN any P N c).map (.block i)
 | .loop c=>(slimN any P N c).map .loop
 | .exit i=>some (.exit i)
 | .ret=>some .ret
 | .scope c=>(slimN any P N c).map .scope
 | _=>none
theorem slimN_ok {any:List Nat} {N:Nat}:∀ {code:Code} {ac:ACode},slimN any P N code=some ac→MtC P N code ac:=by
 intro code
 induction code with
 | skip=>intro ac h; simp only [slimN,Option.some.injEq] at h; subst h; trivial
 | label l=>intro ac h; simp only [slimN,Option.some.injEq] at h; subst h; trivial
 | region id ops draw =>
  intro ac h
  cases draw with
  | false =>
   simp only [slimN] at h
   obtain ⟨l,hl,rfl⟩:=Option.map_eq_some_iff.1 h
   exact all2_mapO (fun _ _=>slimOper_ok) hl
  | true =>
   simp only [slimN] at h
   split at h
   ·rename_i l hl
    split at h
    ·obtain ⟨hid,hh,rfl⟩:=Option.map_eq_some_iff.1 h
     exact ⟨all2_mapO (fun _ _=>slimOper_ok) hl,by rw [(anyHid_ok hh).1,if_pos rfl]; exact (anyHid_ok hh).2⟩
    ·obtain ⟨hid,hh,rfl⟩:=Option.map_eq_some_iff.1 h
     exact ⟨all2_mapO (fun _ _=>slimOper_ok) hl,by rw [(drawHidG_ok hh).1,if_neg Bool.false_ne_true]; exact (drawHidG_ok hh).2⟩
   ·cases h
 | seq x y ihx ihy =>
  intro ac h
  simp only [slimN] at h
  split at h
  ·rename_i x' y' h1 h2; injection h with h; subst h; exact ⟨ihx h1,ihy h2⟩
  ·cases h
 | cond c x y ihx ihy =>
  intro ac h
  simp only [slimN] at h
  split at h
  ·rename_i x' y' h1 h2; injection h with h; subst h; exact ⟨rfl,ihx h1,ihy h2⟩
  ·cases h
 | block i c ih=>intro ac h; simp only [slimN] at h; obtain ⟨c',hc,rfl⟩:=Option.map_eq_some_iff.1 h; exact ⟨rfl,ih hc⟩
 | loop c ih=>intro ac h; simp only [slimN] at h; obtain ⟨c',hc,rfl⟩:=Option.map_eq_some_iff.1 h; exact ih hc
 | exit i=>intro ac h; simp only [slimN,Option.some.injEq] at h; subst h; rfl
 | ret=>intro ac h; simp only [slimN,Option.some.injEq] at h; subst h; trivial
 | scope c ih=>intro ac h; simp only [slimN] at h; obtain ⟨c',hc,rfl⟩:=Option.map_eq_some_iff.1 h; exact ih hc
 | _=>intro ac h; cases h
def slimFN (any:List Nat) (P:Program) (fn:Func):Option (ACode × List ARes) :=
 match fn.body with
 | some c=>match slimN any P fn.ntmps c,mapO (slimR P) fn.results.toList with
  | some ac,some rs=>some (ac,rs)
  | _,_=>none
 | none=>none
theorem slimFN_ok {any:List Nat} {fn:Func} {ac:ACode} {rs:List ARes} {c:Code} (hs:slimFN any P fn=some (ac,rs)) (hb:fn.body=some c):MtC P fn.ntmps c ac∧All2 (MtR P) fn.results.toList rs:=by
 unfold slimFN at hs
 rw [hb] at hs
 simp only at hs
 split at hs
 ·rename_i k1 k2
  simp only [Option.some.injEq,Prod.mk.injEq] at hs
  obtain ⟨rfl,rfl⟩:=hs
  exact ⟨slimN_ok k1,all2_mapO (fun _ _=>slimR_ok) k2⟩
 ·cases hs
def noDefer (fn:Func):Func:={ fn with body:=match fn.body with | some (.seq r0 (.seq _ rest))=>some (.seq r0 rest) | b=>b }
theorem slim_mt {pr:Bool} {fn:Func} {ac:ACode} {rs:List ARes} {c:Code} (hs:slimG pr P fn=some (ac,rs)) (hb:fn.body=some c):MtC P fn.ntmps c ac:=by
 unfold slimG at hs
 rw [hb] at hs
 simp only at hs
 split at hs
 ·rename_i k1 k2
  simp only [Option.some.injEq,Prod.mk.injEq] at hs
  obtain ⟨rfl,rfl⟩:=hs
  exact slimC_ok k1
 ·cases hs
def tail1 (fn:Func):Func:={ fn with body:=match fn.body with | some (.seq _ c)=>some c | b=>b }
def doorS (hpD:List AObj) (t0 t1 t2 t9:Nat) (s:St):Prop:=s.hp=hpD∧lk s.fr t0=.ref 0 0 0∧lk s.fr t1=.ref 1 0 0∧lk s.fr t2=.ref 2 0 0∧lk s.fr t9=.top
def fr3 (t0 t1 t2:Nat):List (Nat × AV):=[(t0,.ref 0 0 0),(t1,.ref 1 0 0),(t2,.ref 2 0 0)]
def doorT (hpD:List AObj) (t0 t1 t2:Nat) (cat:AV→List AObj→Prop) (rs:List ARes) (r:Ret) (x:AV) (st:St) (ids:List Nat):Prop :=
 st.hp.take 3=hpD∧(∀ i∈ids,3≤i)∧lk st.fr t0=.ref 0 0 0∧lk st.fr t1=.ref 1 0 0∧lk st.fr t2=.ref 2 0 0∧∃ hp',cat x hp' ∧ finP 0 r ⟨fr3 t0 t1 t2,hp'⟩ (aret ⟨fr3 t0 t1 t2,hp'⟩ rs)
def IdleOk (P:Program) (g:FuncId):Prop:=∀ (caps:Array Value) (w:World),caps.size=3→CallsD P g caps .returning w fun e u' w' => e=.returned (.tuple #[])∧u' = .returning∧w' = w
def CatchOk (P:Program) (g:FuncId) (hpD:List AObj) (cat:AV→List AObj→Prop):Prop:=∀ x hp',cat x hp' → ∀ (w:World) (S:Nat→Prop) (ρ:Rho) (caps:Array Value) (v:Value),HeapOk (Lent ρ hpD) w S ρ hpD w→GlobOk w S→caps.size=3 →
 (∀ i,i<3→Vl w S ρ (.ref i 0 0) (caps.getD i undef))→Vl w S ρ x v →
 CallsD P g caps (.panicking [{ v,recovered:=false }]) w fun e u' w' => e=.returned (.tuple #[])∧u' = .panicking [{ v,recovered:=true }]∧∃ S' ρ',HeapOk (Lent ρ hpD) w S' ρ' hp' w' ∧ Ext w w' S S' ρ ρ' ∧ ∀ b,S' b→S b∨Lent ρ hpD b∨w.heap.size≤b
theorem door_ok {f g : FuncId} {fn : Func} {r0 rest : Code} {id1 : Nat} {o1 o2 : Oper} {t0 t1 t2 t9 : Nat} {ts : Array TypeId} {sp : Spec} {ac0 ac : ACode} {rs : List ARes} {any : List Nat} {Φ : Phi} {ΦX : PhX} {hpD : List AObj} {cat : AV → List AObj → Prop}
  (hf : P.funcs[f]? = some fn) (hb : fn.body = some (.seq r0 (.seq (.region id1 #[o1, o2] false) rest))) (h1 : o1.op = .makeFunc (.func g) #[] #[.tmp t0, .tmp t1, .tmp t2]) (d1 : o1.dst = some t9) (g1 : o1.guard = none) (n9 : t9 < fn.ntmps)
  (h2 : o2.op = .defer { callee := .value (.tmp t9), args := #[], argTypes := ts }) (d2 : o2.dst = none) (g2 : o2.guard = none) (hin : FnIn P g) (hs : slimFN any P (noDefer fn) = some (.seq ac0 ac, rs)) (hΦ : PhiOk P Φ) (hX : PhXOk P ΦX)
  (idle : IdleOk P g) (hD : hpD.length = 3) (hcells : ∀ o ∈ hpD, cellsB o = true) (hcat : CatchOk P g hpD cat)
  (h : ∀ «as» hp r, sp «as» hp = some r → r.pre → hp = [] ∧ «as».length ≤ fn.ntmps ∧ awp3 Φ ΦX (fun _ _ _ => False) 0 ac0 (fun e s => e = .normal ∧ doorS hpD t0 t1 t2 t9 (toS s) ∧ awp3 Φ ΦX (doorT hpD t0 t1 t2 cat rs r) 3 ac (retQ2 rs 0 r) s) (ofS ⟨slots 0 «as», []⟩)) : FnOk P f sp := by
 have hbn : (noDefer fn).body = some (.seq r0 rest) := by simp only [noDefer, hb]
 obtain ⟨⟨hm0, hm⟩, hr⟩ := slimFN_ok hs hbn
 ·intro «as» hp r hsp hp' w S ρ args H ha
  obtain ⟨rfl, hlen, hw⟩ := h «as» hp r hsp hp'
  have hno : ∀ i v, ρ i v = none := fun i v => H.new i (Nat.zero_le _) v
  refine calls_of_wp_defers hf hb ?_
  have hal : args.length ≤ fn.ntmps := by rw [ha.2]; exact hlen
  have R : Rel (Lent ρ []) w S ρ fn.ntmps [] ⟨slots 0 «as», []⟩ { tmps := args.toArray ++ Array.replicate (fn.ntmps - args.toArray.size) undef, defers := [] } w := by
   refine ⟨S, ρ, H, ⟨ha.1, fun t => ?_⟩, by simp; omega, rfl, fun b hb => .inl hb, Ext.refl _ _ _⟩
   rw [lk_slots, if_pos (Nat.zero_le t), Nat.sub_zero]
   rcases Nat.lt_or_ge t «as».length with hlt | hge
   ·have := ha.3 t hlt
    have e : (args.toArray ++ Array.replicate (fn.ntmps - args.toArray.size) undef).getD t undef = args.getD t undef := by
     have hta : t < args.length := by rw [ha.2]; exact hlt
     have h1 : (args.toArray ++ Array.replicate (fn.ntmps - args.toArray.size) undef)[t]? = some args[t] := by
      rw [Array.getElem?_append_left (by simpa using hta)]; simp [hta]
     rw [Array.getD_eq_getD_getElem?, h1, List.getD_eq_getElem?_getD, List.getElem?_eq_getElem hta]
    rw [e]; exact this
   ·have : «as».getD t .top = .top := by rw [List.getD_eq_getElem?_getD, List.getElem?_eq_none hge]; rfl
    rw [this]; exact Vl.top _
  refine wp_seq ?_
  refine awp3_ok hΦ hX (fun i v L hL => by rw [hno] at hL; cases hL) ac0 _ _ hw r0 hm0 _ (fun e s a w1 hq R1 => ?_) (fun x' st ids v a w' ht R' => ht.elim) _ w (R.toS (R2.ofS _))
  obtain ⟨rfl, ⟨e1, e2, e3, e4, e5⟩, hw2⟩ := hq
  obtain ⟨S1, ρ1, R1⟩ := R1
  refine wp_seq (wp_region_list ?_)
  have w1' : Region.wanted o1 (yielded #[o1, o2] a.tmps) = true := by simp [Region.wanted, g1]
  simp only [wpList, if_pos w1']
  refine .inl ?_
  unfold Oper.wp
  rw [run_mkfn3 h1, Oper.upon_value, d1]
  generalize hcaps : #[a.eval (.tmp t0), a.eval (.tmp t1), a.eval (.tmp t2)] = caps
  have w2' : Region.wanted o2 (yielded #[o1, o2] (a.put (some t9) (.func (.func g) #[] caps)).tmps) = true := by simp [Region.wanted, g2]
  simp only [if_pos w2']
  refine .inl ?_
  have hev : (a.put (some t9) (.func (.func g) #[] caps)).eval (.tmp t9) = .func (.func g) #[] caps := by
   have : t9 < a.tmps.size := by rw [R1.size]; exact n9
   simp [Act.eval, Act.put, this]
  rw [run_dfr h2 hev]
  show (rest.wp P _ _ w1)
  rw [d2]
  show rest.wp P _ { tmps := a.tmps.setIfInBounds t9 (.func (.func g) #[] caps), defers := { target := .fn (.func g) caps, args := #[] } :: a.defers } w1
  rw [R1.dfr]
  have hsize : (toS s).hp.length = 3 := by rw [e1]; exact hD
  have R2' : RelS (Lent ρ1 (toS s).hp) w1 S1 ρ1 fn.ntmps [{ target := .fn (.func g) caps, args := #[] }] S1 ρ1 (toS s) { tmps := a.tmps.setIfInBounds t9 (.func (.func g) #[] caps), defers := [{ target := .fn (.func g) caps, args := #[] }] } w1 := by
   refine ⟨R1.heap.base, ⟨R1.fr.1, fun t => ?_⟩, by rw [Array.size_setIfInBounds]; exact R1.size, rfl, fun _ hb => .inl hb, Ext.refl _ _ _⟩
   by_cases e : t9 = t
   ·subst e; rw [e5]; exact Vl.top _
   ·have := R1.fr.2 t
    have e' : (a.tmps.setIfInBounds t9 (.func (.func g) #[] caps)).getD t undef = a.tmps.getD t undef := by simp [Array.getElem?_setIfInBounds_ne e]
    rw [e']; exact this
  have hcv : ∀ i, i < 3 → Vl w1 S1 ρ1 (.ref i 0 0) (caps.getD i undef) := by
   intro i hi
   subst hcaps
   match i, hi with
   | 0, _ => have := R1.fr.2 t0; rw [e2] at this; exact this
   | 1, _ => have := R1.fr.2 t1; rw [e3] at this; exact this
   | 2, _ => have := R1.fr.2 t2; rw [e4] at this; exact this
  have hcz : caps.size = 3 := by subst hcaps; rfl
  refine awp3_ok hΦ hX (fun i v L hL => ?_) ac _ _ hw2 rest hm _ (fun e s' a' w' hq R' => ?_) (fun x' st ids v a' w' ht R' => ?_) _ w1 ⟨S1, ρ1, R2'⟩
  ·rcases Nat.lt_or_ge i 3 with h1 | h1
   ·exact h1
   ·rw [R1.heap.new i (by omega)] at hL; cases hL
  ·-- a return
   obtain ⟨S', ρ', R'⟩ := R'
   have key : finP 0 r (toS s') (aret (toS s') rs) → Leaves P fn a'.tmps (fun e w' => ∃ v S' ρ', e = .returned v ∧ Vl w' S' ρ' r.v v ∧ HeapOk (Lent ρ []) w S' ρ' r.hp w' ∧ Ext w w' S S' ρ ρ' ∧ (∀ b, S' b → S b ∨ w.heap.size ≤ b ∨ Lent ρ [] b)) a'.defers .returning w' := by
    intro hfin
    rw [R'.dfr]
    refine leaves_cons (by simp) (run_leave hin) ((idle caps w' hcz).mono ?_)
    rintro e u' w'' ⟨rfl, rfl, rfl⟩
    obtain ⟨v, hv, S2, ρ2, q1, q2, q3, q4⟩ := fin_ok (hp0 := []) hr hfin (fun id _ v => hno id v) (R1.heap.unbase R'.heap) R'.fr (sin_un R1.heap R1.sin R'.sin) (R1.ext.trans R'.ext)
    exact ⟨v, hv, v, S2, ρ2, rfl, q1, q2, q3, q4⟩
   cases e with
   | normal => exact key hq
   | ret => exact key hq
   | _ => exact hq.elim
  ·-- a throw
   obtain ⟨t1', t2', l0, l1, l2, hp3, hc, hfin⟩ := ht
   have hds := R'.2.1
   have hvx := R'.1
   have H1 : HeapOk (Lent ρ []) w S1 ρ1 hpD w1 := by have := R1.heap; rw [e1] at this; exact this
   rw [e1] at R'
   obtain ⟨ρ3, H3, E3, V3⟩ := thrown_heap H1 R' (by rw [hD]; exact t1') (by rw [hD]; exact t2') hcells
   show Leaves P fn a'.tmps _ a'.defers (.panicking [{ v, recovered := false }]) w'
   rw [hds]
   have hgl : GlobOk w' S1 := R1.fr.1.ext E3.mem E3.st
   refine leaves_cons (by simp) (run_leave hin) ((hcat x' hp3 hc w' S1 ρ3 caps v H3.base hgl hcz (fun i hi => (hcv i hi).ext E3) (hvx w' S1 ρ3)).mono ?_)
   rintro e u' w'' ⟨rfl, rfl, S4, ρ4, H4, E4, sin4⟩
   have HH : HeapOk (Lent ρ []) w S4 ρ4 hp3 w'' := H1.unbase (H3.unbase H4)
   have hs1 : ∀ b, S4 b → S b ∨ Lent ρ [] b ∨ w.heap.size ≤ b := sin_un H1 R1.sin (sin_un H3 (fun b hb => .inl hb) sin4)
   have hfr : FrOk w'' S4 ρ4 (fr3 t0 t1 t2) a'.tmps := by
    refine ⟨hgl.ext E4.mem E4.st, fun t => ?_⟩
    unfold fr3
    simp only [lk]
    by_cases q0 : t0 = t
    ·rw [if_pos q0, ← q0]; exact (V3 t0 0 (by omega) l0).ext E4
    ·rw [if_neg q0]
     by_cases q1 : t1 = t
     ·rw [if_pos q1, ← q1]; exact (V3 t1 1 (by omega) l1).ext E4
     ·rw [if_neg q1]
      by_cases q2 : t2 = t
      ·rw [if_pos q2, ← q2]; exact (V3 t2 2 (by omega) l2).ext E4
      ·rw [if_neg q2]; exact Vl.top _
   obtain ⟨v', hv', S2, ρ2, q1, q2, q3, q4⟩ := fin_ok (hp0 := []) hr hfin (fun id _ v => hno id v) HH hfr hs1 ((R1.ext.trans E3).trans E4)
   exact ⟨v', hv', v', S2, ρ2, rfl, q1, q2, q3, q4⟩
end
section
variable {P : Program} {Φ : Phi} {ΦX : PhX} {T : AV → St → List Nat → Prop} {deps : List Nat} {l : List AOper} {σ : Nat → S2} {K : S2 → Prop}
theorem next3_mono {K K' : Nat→S2→Prop} (h:∀ dn s,K dn s→K' dn s):∀ (l' : List AOper) (deps' : List Nat) (i dn:Nat) (s:S2),next3 Φ ΦX T K s dn i deps' l' → next3 Φ ΦX T K' s dn i deps' l' := by
 intro l'
 induction l' with
 | nil=>intro deps' i dn s hh; cases deps' <;> exact hh
 | cons o l' ihl =>
  intro deps' i dn s hh
  cases deps' with
  | nil=>exact hh
  | cons d deps' =>
   refine ⟨?_,ihl _ _ _ _ hh.2⟩
   have h1:=hh.1
   split
   ·rename_i e; rw [if_pos e] at h1
    obtain ⟨d',op,g⟩:=o
    cases g with
    | none =>
     simp only [step3] at h1 ⊢
     split
     ·rename_i e; rw [if_pos e] at h1
      split
      ·rename_i e; rw [if_pos e] at h1; exact h1
      ·rename_i e; rw [if_neg e] at h1; exact aq2_mono (fun s' hs=>h _ _ hs) h1
     ·rename_i e; rw [if_neg e] at h1; exact aq2_mono (fun s' hs=>h _ _ hs) h1
    | some g=>exact h1
   ·trivial
def memB:Nat→List Nat→Bool
 | _,[]=>false
 | n,m :: r=>if n=m then true else memB n r
theorem memB_ok {n:Nat}:∀ {L:List Nat},memB n L=true→n∈L
 | m :: r,h=>by
  simp only [memB] at h
  split at h
  ·rename_i e; subst e; exact List.mem_cons_self ..
  ·exact List.mem_cons_of_mem _ (memB_ok h)
def lev3 (Φ:Phi) (ΦX:PhX) (T:AV→St→List Nat→Prop) (deps:List Nat) (l:List AOper) (σ:Nat→S2) (L' : List Nat):List Nat→Prop
 | []=>True
 | dn :: r=>next3 Φ ΦX T (fun dn' s' => memB dn' L' = true∧s' = σ dn') (σ dn) dn 0 deps l∧lev3 Φ ΦX T deps l σ L' r
def lst3 (σ:Nat→S2) (K:S2→Prop):List Nat→Prop
 | []=>True
 | dn :: r=>K (σ dn)∧lst3 σ K r
def tab3 (Φ:Phi) (ΦX:PhX) (T:AV→St→List Nat→Prop) (deps:List Nat) (l:List AOper) (σ:Nat→S2) (K:S2→Prop):List (List Nat)→Prop
 | []=>True
 | [L]=>lst3 σ K L
 | L :: L' :: r=>lev3 Φ ΦX T deps l σ L' L∧tab3 Φ ΦX T deps l σ K (L' :: r)
theorem lev3_at {L' : List Nat}:∀ {L:List Nat},lev3 Φ ΦX T deps l σ L' L→∀ dn∈L,next3 Φ ΦX T (fun dn' s' => memB dn' L' = true∧s' = σ dn') (σ dn) dn 0 deps l
 | [],_,dn,h=>by cases h
 | m :: r,hh,dn,h=>by
  rcases List.mem_cons.1 h with rfl | h
  ·exact hh.1
  ·exact lev3_at hh.2 dn h
theorem lst3_at:∀ {L:List Nat},lst3 σ K L→∀ dn∈L,K (σ dn)
 | [],_,dn,h=>by cases h
 | m :: r,hh,dn,h=>by
  rcases List.mem_cons.1 h with rfl | h
  ·exact hh.1
  ·exact lst3_at hh.2 dn h
theorem all3_tab:∀ {r:List (List Nat)} {L:List Nat},tab3 Φ ΦX T deps l σ K (L :: r)→∀ dn∈L,all3 Φ ΦX T deps l K r.length dn (σ dn)
 | [],L,h,dn,hd=>lst3_at h dn hd
 | L' :: r,L,h,dn,hd=>by
  refine next3_mono (fun dn' s' hh=>?_) l deps 0 dn _ (lev3_at h.1 dn hd)
  obtain ⟨h1,rfl⟩:=hh
  exact all3_tab h.2 dn' (memB_ok h1)
def frT:List (Option Nat × AV)→Nat→Nat→List (List AV)→List (List AV)
 | [],_,_,f=>f
 | (none,_) :: r,i,dn,f=>frT r (i+1) dn f
 | (some d,v) :: r,i,dn,f=>frT r (i+1) dn (if ((dn &&& 2 ^ i) == 0)=true then f else putF f d v)
def sgT (f:List (List AV)) (vs:List (Option Nat × AV)) (H:Nat→List AObj) (dn:Nat):S2:=⟨frT vs 0 dn f,H dn⟩
end
end Go.Proofs.YtakolikdebfkeaaGreatDoor
namespace Go.Proofs.YtakolikdebfkeaaGreatDoor
open Go.RowKit
def b_iraw_0:ACode:=(.seq (.seq (.reg none [oS 15 (.mv (.t 8)),oS 16 (.bin .eql (.t 15) (.c (.int .i64 0)))]) (.cond (.t 16) .skip (.exit 0))) (.block 1 (.seq (.reg none [oS 17 (.mv (.t 7)),oS 18 (.nck (.t 17)),oS 19 (.fa 0 (.t 18)),oS 20 (.call 122 [(.t 19)]),oS 8 (.mv (.t 20))]) (.seq (.reg none [oS 21 (.mv (.t 7)),oS 22 (.nck (.t 21)),oS 23 (.fa 0 (.t 22)),oS 24 (.call 123 [(.t 23),(.c (.int .i64 2))])]) (.block 2 (.seq (.reg none [oS 27 (.bin .eql (.t 24) (.c (.int .i64 0))),oS 26 (.mv (.t 27))]) (.cond (.t 26) (.reg none [oS 28 (.mv (.t 7)),oS 29 (.call 124 [(.t 28)])]) (.seq (.reg none [oS 31 (.bin .eql (.t 24) (.c (.int .i64 1))),oS 30 (.mv (.t 31))]) (.cond (.t 30) (.reg none [oS 32 (.mv (.t 7)),oS 33 (.call 126 []),oS 34 (.ext (.t 33) 0),oS 35 (.ext (.t 33) 1),oS 36 (.call 125 [(.t 32),(.t 34),(.t 35)])]) (.seq (.reg none [oS 38 (.bin .eql (.t 24) (.c (.int .i64 2))),oS 37 (.mv (.t 38))]) (.cond (.t 37) (.reg none [oS 39 (.mv (.t 7)),oS 40 (.mv (.t 7)),oS 41 (.call 127 [(.t 40)]),oS 42 (.ext (.t 41) 0),oS 43 (.ext (.t 41) 1),oS 44 (.call 125 [(.t 39),(.t 42),(.t 43)])]) (.reg none [oS 25 (.call 128 [(.c (.int .i64 4))])]))))))))))))
def t_iraw_0:ACode:=(.seq (.reg (some [(1000,true),(0,true),(1,true),(2,true),(4,true),(0,true),(16,true),(32,true),(64,true),(128,true),(256,true),(512,true),(15,true),(4095,true),(8191,true)]) [oS 45 (.mv (.t 7)),oS 46 (.nck (.t 45)),oS 47 (.fa 2 (.t 46)),oS 48 (.ld (.one (.con (.slice none 0 0))) (.t 47)),oS 49 (.mv (.t 7)),oS 50 (.nck (.t 49)),oS 51 (.fa 0 (.t 50)),oS 52 (.fa 1 (.t 51)),oS 53 (.ld (.one (.int .i64 0)) (.t 52)),oS 54 (.bin .add (.t 53) (.c (.int .i64 7))),oS 55 (.bin .quo (.t 54) (.c (.int .i64 8))),oN (.st (.one (.con (.slice none 0 0))) (.t 4) (.t 48)),oN (.st (.one (.int .i64 0)) (.t 5) (.t 55)),oN (.st (.one (.int .i64 0)) (.t 6) (.c (.int .i64 0)))]) .ret)
def c_iraw:ACode:=(.seq (.reg none [oS 4 (.new 22 [(1,(.con (.slice none 0 0)))]),oS 5 (.new 3 [(1,(.int .i64 0))]),oS 6 (.new 27 [(1,(.int .i64 0))])]) (.seq (.reg none [oS 10 (.mv (.t 0)),oS 11 (.build [(1,(.con (.slice none 0 0))),(1,(.int .i64 0))] [(0,(1,(.t 10)))]),oS 12 (.mv (.t 1)),oS 13 (.build [(1,(.con (.slice none 0 0))),(1,(.int .i64 0)),(1,(.con (.slice none 0 0))),(1,(.int .i64 0))] [(0,(2,(.t 11))),(3,(1,(.t 12)))]),oS 14 (.box 185 4 (.t 13)),oS 7 (.mv (.t 14))]) (.seq (.seq (.reg none [oS 8 (.mv (.c (.int .i64 0)))]) (.block 0 (.loop b_iraw_0))) t_iraw_0)))
def r_iraw:List ARes:=[(.c 4 (.one (.con (.slice none 0 0)))),(.c 5 (.one (.int .i64 0))),(.c 6 (.one (.int .i64 0)))]
theorem s_iraw:slimFN [14] Tryz.prog (noDefer Tryz.f90)=some (c_iraw,r_iraw):=by kernel_rfl
def c_irawc:ACode:=(.seq (.reg none [oS 7 (.mv (.t 3)),oS 8 (.nilc 0 true (.t 7))]) (.cond (.t 8) (.seq (.reg none [oS 10 (.mv (.t 3)),oS 11 (.tas 179 (.t 10)),oS 9 (.mv (.t 11)),oS 12 (.ext (.t 9) 0),oS 13 (.ext (.t 9) 1),oS 4 (.new 179 [(1,(.int .i64 0))]),oN (.st (.st 1) (.t 4) (.t 12)),oS 5 (.mv (.t 13))]) (.seq (.seq (.reg none [oS 14 (.mv (.t 5)),oS 15 (.un .not (.t 14))]) (.cond (.t 15) (.reg none [oS 16 (.mv (.t 3)),oN (.pan (.t 16))]) .skip)) (.reg (some [(0,false),(0,false),(3,false),(4,false),(4,true)]) [oS 17 (.fa 0 (.t 4)),oS 18 (.ld (.one (.int .i64 0)) (.t 17)),oN (.st (.one (.con (.slice none 0 0))) (.t 0) (.c (.con (.slice none 0 0)))),oN (.st (.one (.int .i64 0)) (.t 1) (.c (.int .i64 0))),oN (.st (.one (.int .i64 0)) (.t 2) (.t 18))]))) .skip))
def r_irawc:List ARes:=[]
theorem s_irawc:slimF Tryz.prog (tail1 Tryz.f121)=some (c_irawc,r_irawc):=by kernel_rfl
end Go.Proofs.YtakolikdebfkeaaGreatDoor
namespace Go.Proofs.YtakolikdebfkeaaGreatDoor
open Go.RowKit
theorem iraw_idle:IdleOk Tryz.prog 121:=by
 intro caps w hc
 obtain ⟨p,q,r,rfl⟩:∃ p q r,caps=#[p,q,r]:=by
  match caps,hc with
  | ⟨[p,q,r]⟩,_=>exact ⟨p,q,r,rfl⟩
 refine callsD_of_wpS Tryz.func121 rfl fun c₀ cs hu=>?_
 apply wpS_seq
 apply wpS_region
 simp [wpOpsS,go_sem,recoverD,hu,Tryz.ntmps121,Exit.thenS]
 apply wpS_seq
 apply wpS_region
 simp [wpOpsS,go_sem,Exit.thenS]
 refine wpS_cond (t:=false) (by simp [Act.eval,Array.replicate]) ?_
 simp only [Bool.false_eq_true,if_false]
 refine wpS_of_wp (wp_skip ?_)
 cases c₀
 simp_all [bodyPostS,results,Tryz.results121]
def rawHp:List AObj:=[.cells 22 [(1,.con (.slice none 0 0))],.cells 3 [(1,.int .i64 0)],.cells 27 [(1,.int .i64 0)]]
def rawCat (x:AV) (hp' : List AObj):Prop:=∃ e:Nat,x=wrongV e∧hp' = [.cells 22 [(1,.con (.slice none 0 0))],.cells 3 [(1,.int .i64 0)],.cells 27 [(1,.int .i64 (e:Int))],.cells 179 [(1,.int .i64 (e:Int))]]
theorem iraw_catch:CatchOk Tryz.prog 121 rawHp rawCat:=by
 rintro x hp' ⟨e,rfl,rfl⟩ w S ρ caps v H hgl hc hcv hv
 obtain ⟨p,q,r,rfl⟩:∃ p q r,caps=#[p,q,r]:=by
  match caps,hc with
  | ⟨[p,q,r]⟩,_=>exact ⟨p,q,r,rfl⟩
 refine callsD_of_wpS Tryz.func121 rfl fun c₀ cs hu=>?_
 apply wpS_seq
 apply wpS_region
 simp [wpOpsS,go_sem,recoverD,hu,Tryz.ntmps121,Exit.thenS]
 refine wpS_of_wp ?_
 refine awp3_ok (T:=fun _ _ _=>False) (m:=3) (F:=Lent ρ rawHp) (w0:=w) (S0:=S) (ρ0:=ρ) (ds:=[]) (Φ:=phiL []) (ΦX:=phXL []) phi_nil phXL_nil (fun i v L hL=>?_) c_irawc (fun e' s=>e' = .normal∧(toS s).hp=[.cells 22 [(1,.con (.slice none 0 0))],.cells 3 [(1,.int .i64 0)],.cells 27 [(1,.int .i64 (e:Int))],.cells 179 [(1,.int .i64 (e:Int))]]) (ofS ⟨[(0,.ref 0 0 0),(1,.ref 1 0 0),(2,.ref 2 0 0),(3,wrongV e)],rawHp⟩) ?_ _ (slim_mt s_irawc (by rfl)) _ (fun e' s a' w' hq R' => ?_) (fun x' st ids v a w' ht R' => ht.elim) _ w ?_
 ·rcases Nat.lt_or_ge i 3 with h1 | h1
  ·exact h1
  ·rw [H.new i h1] at hL; cases hL
 ·simp only [c_irawc,rawHp,wrongV,go_sem,reduceDiv,reduceMod,↓reduceIte,reduceSub,Nat.reduceLT,reduceAdd,reduceCtorEq]
 ·obtain ⟨rfl,hq⟩:=hq
  obtain ⟨S',ρ',R'⟩:=R'
  refine ⟨R'.dfr,_,rfl,.tuple #[],?_,rfl,rfl,S',ρ',by rw [← hq]; exact R'.heap,R'.ext,R'.sin⟩
  simp [results,Tryz.results121]
 ·have R:Rel (Lent ρ rawHp) w S ρ (tail1 Tryz.f121).ntmps [] ⟨[(0,.ref 0 0 0),(1,.ref 1 0 0),(2,.ref 2 0 0),(3,wrongV e)],rawHp⟩ { tmps:=#[p,q,r] ++ ((Array.replicate 16 undef).setIfInBounds 3 v).setIfInBounds 0 v,defers:=[] } w:=by
   refine ⟨S,ρ,H,⟨hgl,fun t=>?_⟩,by simp; rfl,rfl,fun _ hb=>.inl hb,Ext.refl _ _ _⟩
   match t with
   | 0=>have h:=hcv 0 (by omega); simp at h; simp [lk]; exact h
   | 1=>have h:=hcv 1 (by omega); simp at h; simp [lk]; exact h
   | 2=>have h:=hcv 2 (by omega); simp at h; simp [lk]; exact h
   | 3=>simp [lk]; exact hv
   | t+4 =>
    have e4:lk [(0,AV.ref 0 0 0),(1,AV.ref 1 0 0),(2,AV.ref 2 0 0),(3,wrongV e)] (t+4)=.top:=by
     simp only [lk]
     rw [if_neg (by omega),if_neg (by omega),if_neg (by omega),if_neg (by omega)]
    rw [e4]; exact Vl.top _
  exact R.toS (R2.ofS _)
end Go.Proofs.YtakolikdebfkeaaGreatDoor
namespace Go.Proofs.YtakolikdebfkeaaGreatDoor
open Go.RowKit
abbrev Td:=List Bool→Nat→RdE (List Nat × List Nat)
def itoldS (td:Td):Spec:=fun xs hp=>match xs,hp with
 | [.ref 0 0 0],[.cells t [(1,.sl k ps),(1,.int .i64 a),(1,.own 1 v),(1,.int .i64 m)],.row 5 1 rv ys]=>match td (bitsOf (unB ps)) a.toNat with
  | .ok ((ls,ds),q)=>some ⟨.tup [codeV ls,codeV ds],[.cells t [(1,.sl k ps),(1,.int .i64 (q:Int)),(1,.own 1 v),(1,.int .i64 m)],.row 5 1 rv ys],inpOk k ps∧0≤a⟩
  | .error _=>none
 | _,_=>none
def itoldX (td:Td):XSpec:=fun xs hp=>match xs,hp with
 | [.ref 0 0 0],[.cells t [(1,.sl k ps),(1,.int .i64 a),(1,.own 1 v),(1,.int .i64 m)],.row 5 1 rv ys]=>match td (bitsOf (unB ps)) a.toNat with
  | .ok _=>none
  | .error e=>some (wrongV e,inpOk k ps∧0≤a∧a≤8 * ((unB ps).length:Int)∧e≠9)
 | _,_=>none
structure TdOk (td:Td):Prop where
 fn:FnOk Tryz.prog 127 (itoldS td)
 px:FnPX Tryz.prog 127 (itoldX td)
 pos:∀ {B:List Bool} {p:Nat} {ls ds:List Nat} {q:Nat},p≤B.length→td B p=.ok ((ls,ds),q)→p≤q∧q≤B.length∧ls.length≤320∧ds.length≤320
def tdNo:Td:=fun _ _=>.error 9
theorem tdNo_ok:TdOk tdNo:=by
 refine ⟨?_,?_,fun _ h=>by cases h⟩
 ·intro xs hp r hs
  unfold itoldS tdNo at hs
  split at hs <;> cases hs
 ·intro xs hp x p hs hp'
  unfold itoldX tdNo at hs
  split at hs
  ·injection hs with hs; injection hs with e1 e2; subst e2
   exact absurd rfl hp'.2.2.2
  ·cases hs
def irawS (td:Td):Spec:=fun xs hp=>match xs,hp with
 | [.sl k ps,.int .i64 m],[]=>match rawE td (unB ps) m.toNat with
  | .ok (o,n)=>some ⟨.tup [.own 0 o.length,.int .i64 (n:Int),.int .i64 0],[.row 5 1 o.length (Bs o)],inpOk k ps∧0≤m∧m≤100000000⟩
  | .error e=>some ⟨.tup [.con (.slice none 0 0),.int .i64 0,.int .i64 (e:Int)],[],inpOk k ps∧0≤m∧m≤100000000∧e≠9⟩
 | _,_=>none
theorem phRaw_ok {td:Td} (h:TdOk td):PhiOk Tryz.prog (phiL [(122,[],ibitS),(123,[],inumS),(124,[],istorS),(126,[],ifixS),(125,[],isignsS),(127,[],itoldS td)]):=phi_cons ibit_ok (by kernel_rfl) (phi_cons inum_ok (by kernel_rfl) (phi_cons istor_ok (by kernel_rfl) (phi_cons ifix_ok (by kernel_rfl) (phi_cons isigns_ok (by kernel_rfl) (phi_cons h.fn (by kernel_rfl) phi_nil)))))
theorem phRaw_px {td:Td} (h:TdOk td):PhXOk Tryz.prog (phXL [(122,[],ibitX),(123,[],inumX),(124,[],istorX),(125,[],isignsX),(127,[],itoldX td),(128,[],ifailX)]):=phXL_cons ibit_px (by kernel_rfl) (phXL_cons inum_px (by kernel_rfl) (phXL_cons istor_px (by kernel_rfl) (phXL_cons isigns_px (by kernel_rfl) (phXL_cons h.px (by kernel_rfl) (phXL_cons ifail_ok (by kernel_rfl) phXL_nil)))))
theorem bytes_pos {B:List Bool} {most:Nat}:∀ {n p:Nat} {out o:List UInt8} {q:Nat},bytesE B most n p out=.ok (o,q)→p≤B.length→p≤q∧q≤B.length∧out.length≤o.length∧o.length≤max most out.length
 | 0,p,out,o,q,h,hp=>by injection h with h; injection h with h1 h2; subst h1 h2; omega
 | n+1,p,out,o,q,h,hp=>by
  rw [bytesE_succ] at h
  split at h
  ·cases h
  ·rename_i c p1 hn
   split at h
   ·cases h
   ·rename_i o' ho
    obtain ⟨a1,a2,a3⟩:=numE_ok hn
    have h1:=put_len ho
    have hl:o'.length=out.length+1:=by rw [h1.1,List.length_append]; rfl
    have:=bytes_pos h (by omega)
    omega
theorem stored_pos {B:List Bool} {most p:Nat} {out o:List UInt8} {q:Nat} (h:storedE B most p out=.ok (o,q)):p≤q∧q≤B.length∧out.length≤o.length∧o.length≤max most out.length:=by
 unfold storedE at h
 split at h
 ·cases h
 ·rename_i n p1 hn
  split at h
  ·cases h
  ·rename_i m p2 hm
   split at h
   ·obtain ⟨a1,a2,a3⟩:=numE_ok hn
    obtain ⟨b1,b2,b3⟩:=numE_ok hm
    have:=bytes_pos h (by omega)
    omega
   ·cases h
theorem copyE_most {most back:Nat}:∀ {n:Nat} {out o:List UInt8},copyE most back n out=.ok o→o.length≤max most out.length
 | 0,out,o,h=>by injection h with h; subst h; omega
 | n+1,out,o,h=>by
  rw [copyE_succ] at h
  split at h
  ·cases h
  ·rename_i o' ho
   have h1:=put_len ho
   have hl:o'.length=out.length+1:=by rw [h1.1,List.length_append]; rfl
   have:=copyE_most h
   omega
theorem signs_pos {ls ds:List Nat} {B:List Bool} {most N:Nat} (h0:0<N) (hl:∀ i∈sgs ls,i<N) (hd:∀ i∈sgs ds,i<N):∀ {f p:Nat} {out o:List UInt8} {q:Nat},signsE ls ds B most f p out=.ok (o,q)→p<q∧q≤B.length∧out.length≤o.length∧o.length≤max most out.length
 | 0,p,out,o,q,h=>by cases h
 | f+1,p,out,o,q,h=>by
  rw [signsE_succ] at h
  unfold signK at h
  split at h
  ·cases h
  ·rename_i s p1 hs
   obtain ⟨s1,s2,s3⟩:=signE_pos h0 hl hs
   split at h
   ·split at h
    ·cases h
    ·rename_i o' ho
     have h1:=put_len ho
     have hl' : o'.length=out.length+1:=by rw [h1.1,List.length_append]; rfl
     have:=signs_pos h0 hl hd h
     omega
   ·split at h
    ·injection h with h; injection h with h1 h2; subst h1 h2; omega
    ·split at h
     ·cases h
     ·rename_i n p2 hn
      have hp2:=lenE_pos hn (by omega)
      split at h
      ·cases h
      ·split at h
       ·cases h
       ·rename_i d p3 hd3
        obtain ⟨d1,d2,d3⟩:=signE_pos h0 hd hd3
        split at h
        ·cases h
        ·rename_i back p4 hd4
         have hp4:=distE_pos hd4 (by omega)
         split at h
         ·cases h
         ·split at h
          ·cases h
          ·rename_i o' ho
           have h1:=copyE_len ho
           have h2:=copyE_most ho
           have:=signs_pos h0 hl hd h
           omega
theorem fix_sgs:(∀ i∈sgs fixL,i<320)∧(∀ i∈sgs fixD,i<320)∧totL fixL 15≤320∧totL fixD 15≤320 :=
 ⟨fun i hi=>by have:=sgs_lt fixL i hi; rw [fix_len] at this; omega,fun i hi=>by have:=sgs_lt fixD i hi; rw [fixD_len] at this; omega,by have:=tot_le fixL 15; rw [fix_len] at this; omega,by have:=tot_le fixD 15; rw [fixD_len] at this; omega⟩
theorem codeOk_codeV {ls:List Nat} (h1:∀ i∈sgs ls,i<320) (h2:totL ls 15≤320):codeOk (codeV ls):=by
 have e:codeV (lsOf (codeV ls))=codeV ls:=lsOf_code ls
 have e2:=(codeV_inj e).2
 refine ⟨e.symm,?_,?_⟩
 ·rw [e2]; exact h1
 ·rw [e2,sgs_len]; omega
theorem signs_agg (ls ds:List Nat):signsE (lsOf (.agg [(16,.blob (cntV ls)),(1,.sl 1 ((sgs ls).map iV))])) (lsOf (.agg [(16,.blob (cntV ds)),(1,.sl 1 ((sgs ds).map iV))]))=signsE ls ds:=signsE_lsOf ls ds
theorem door_thr {e:Nat} {st:St} {ids:List Nat} {r:Ret} (h1:st.hp.take 3=rawHp) (h2:∀ i∈ids,3≤i) (l0:lk st.fr 4=.ref 0 0 0) (l1:lk st.fr 5=.ref 1 0 0) (l2:lk st.fr 6=.ref 2 0 0)
  (hr:r.v=.tup [.con (.slice none 0 0),.int .i64 0,.int .i64 (e:Int)]) (hr2:r.hp=[]):doorT rawHp 4 5 6 rawCat r_iraw r (wrongV e) st ids:=by
 refine ⟨h1,h2,l0,l1,l2,_,⟨e,rfl,rfl⟩,?_⟩
 obtain ⟨v,hp,pre⟩:=r
 subst hr hr2
 simp only [fr3,r_iraw,go_sem,↓reduceIte,reduceEqDiff]
structure RwI where
 f:Nat
 last:Nat
 p:Nat
 out:List UInt8
set_option maxHeartbeats 1000000 in
set_option maxHeartbeats 4000000 in
set_option maxRecDepth 20000 in
theorem iraw_ok {td:Td} (hTd:TdOk td):FnOk Tryz.prog 90 (irawS td):=by
 refine door_ok (hpD:=rawHp) (cat:=rawCat) Tryz.func90 rfl rfl rfl rfl (by decide) rfl rfl rfl (fnInB_ok (by kernel_rfl)) s_iraw (phRaw_ok hTd) (phRaw_px hTd) iraw_idle rfl (by decide) iraw_catch ?_
 intro xs hp r hs hp'
 unfold irawS at hs
 split at hs
 ·rename_i k ps m
  refine ⟨rfl,len_le (by kernel_rfl),?_⟩
  unfold rawE at hs
  generalize hRR:rawGo td (bitsOf (unB ps)) m.toNat (8 * (unB ps).length+1) 0 []=RR at hs
  obtain ⟨h1,h2,h3,h9⟩:inpOk k ps∧0≤m∧m≤100000000∧RR≠.error 9:=by
   cases RR with
   | error e=>injection hs with hs; subst hs; exact ⟨hp'.1,hp'.2.1,hp'.2.2.1,fun h=>hp'.2.2.2 (by injection h)⟩
   | ok q=>injection hs with hs; subst hs; exact ⟨hp'.1,hp'.2.1,hp'.2.2,fun h=>by cases h⟩
  obtain ⟨mo,rfl⟩:∃ p:Nat,m=p:=⟨m.toNat,by omega⟩
  have hps:=h1.1
  generalize unB ps=b at *
  subst hps
  have hl:=inp_len h1
  have thr:∀ {e:Nat} {st:St} {ids:List Nat},RR=.error e→st.hp.take 3=rawHp→(∀ i∈ids,3≤i)→lk st.fr 4=.ref 0 0 0→lk st.fr 5=.ref 1 0 0→lk st.fr 6=.ref 2 0 0→doorT rawHp 4 5 6 rawCat r_iraw r (wrongV e) st ids:=by
   intro e st ids hre q1 q2 q3 q4 q5
   subst hre
   injection hs with hs; subst hs
   exact door_thr q1 q2 q3 q4 q5 rfl rfl
  clear hp'
  simp only [doorS,rawHp,go_sem,reduceDiv,reduceMod,↓reduceIte,reduceSub,reduceAdd,reduceLeDiff,reduceCtorEq]
  refine loop3P [(4096+64 * 3+2,5,1)] [4,5,6,7,8] [0,1,2,3,4] (fun i:RwI=>⟨[(4,.ref 0 0 0),(5,.ref 1 0 0),(6,.ref 2 0 0),(7,.ref 3 0 0),(8,.int .i64 (i.last:Int))],[.cells 22 [(1,.con (.slice none 0 0))],.cells 3 [(1,.int .i64 0)],.cells 27 [(1,.int .i64 0)],.cells 185 [(1,.sl k (Bs b)),(1,.int .i64 (i.p:Int)),(1,.own 4 i.out.length),(1,.int .i64 (mo:Int))],.row 5 1 i.out.length (Bs i.out)]⟩) (fun i=>i.p≤8 * b.length∧8 * b.length+1≤i.p+i.f∧i.out.length≤100000000∧((i.last=0∧rawGo td (bitsOf b) mo i.f i.p i.out=RR)∨(i.last=1∧RR=.ok (i.out,i.p)))) (fun i=>i.f) ⟨8 * b.length+1,0,0,[]⟩ (by rfl) ⟨by simp only; omega,by simp only; omega,by simp,.inl ⟨rfl,hRR⟩⟩ ⟨rfl,by rfl⟩ (fun i hi R hR=>?_)
  obtain ⟨f,la,p,o1⟩:=i
  obtain ⟨i1,i2,i3,i4⟩:=hi
  simp only at i1 i2 i3 i4
  rcases i4 with ⟨rfl,i4⟩ | ⟨rfl,i4⟩
  ·cases f with
   | zero=>omega
   | succ f =>
    change rawK td (bitsOf b) mo (rawGo td (bitsOf b) mo f) p o1=RR at i4
    unfold rawK at i4
    rcases bit_cases b p with ⟨x,hx,hb1,hlt⟩ | ⟨hb1,hge⟩
    ·rw [hb1] at i4
     simp only at i4
     have hbp:inpOk k (Bs b)∧0≤(p:Int):=⟨h1,by omega⟩
     split at i4
     ·rename_i e hn
      simp only [b_iraw_0,ibitS,ibitX,inumX,unB_Bs,Int.toNat_natCast,Int.reduceToNat,hb1,hn,go_sem,reduceDiv,reduceMod,↓reduceIte,reduceEqDiff,Nat.reduceBEq,Nat.reduceLT,reduceAdd,Int.reduceLT,Int.reduceLE,Int.reduceToNat]
      exact ⟨hbp,⟨h1,by omega,by omega⟩,thr i4.symm rfl (by decide) rfl rfl rfl⟩
     ·rename_i ty p2 hn
      obtain ⟨n1,n2,n3⟩:=numE_ok hn
      rw [bitsOf_length] at n1
      have hty:ty<4:=by have:=numB_lt (bitsOf b) (p+1) 2; omega
      have hnp:inpOk k (Bs b)∧0≤((p+1:Nat):Int):=⟨h1,by omega⟩
      have hou:outOk o1.length o1.length (Bs o1) (mo:Int):=⟨by rw [unB_Bs],rfl,by omega,h3⟩
      unfold blockE at i4
      by_cases k0:ty=0
      ·have c0:decide ((ty:Int)=0)=true:=decide_eq_true (by omega)
       rw [if_pos k0] at i4
       split at i4
       ·rename_i e hst
        simp only [b_iraw_0,ibitS,ibitX,inumS,inumX,unB_Bs,Int.toNat_natCast,Int.reduceToNat,istorX,hb1,hn,hst,c0,go_sem,reduceDiv,reduceMod,↓reduceIte,reduceEqDiff,Nat.reduceBEq,Nat.reduceLT,reduceAdd,Int.reduceLT,Int.reduceLE,Int.reduceToNat]
        exact ⟨hbp,hnp,⟨h1,by omega,by omega,hou,i3⟩,thr i4.symm rfl (by decide) rfl rfl rfl⟩
       ·rename_i o p3 hst
        obtain ⟨z1,z2,z3,z4⟩:=stored_pos hst
        rw [bitsOf_length] at z2
        have ev:o1.length+(o.length - o1.length)=o.length:=by omega
        have nx:(x=0∧rawGo td (bitsOf b) mo f p3 o=RR)∨(x=1∧RR=.ok (o,p3)):=by
         by_cases hx1:x=1
         ·rw [if_pos hx1] at i4; exact .inr ⟨hx1,i4.symm⟩
         ·rw [if_neg hx1] at i4; exact .inl ⟨by omega,i4⟩
        simp only [b_iraw_0,ibitS,ibitX,inumS,inumX,unB_Bs,Bs_length,Int.toNat_natCast,Int.reduceToNat,istorS,istorX,hb1,hn,hst,c0,ev,go_sem,reduceDiv,reduceMod,↓reduceIte,reduceEqDiff,Nat.reduceBEq,Nat.reduceLT,reduceAdd,Int.reduceLT,Int.reduceLE,Int.reduceToNat]
        refine ⟨hbp,hnp,⟨h1,by omega,hou⟩,hR _ ⟨f,x,p3,o⟩ ⟨by simp only; omega,by simp only; omega,by simp only; omega,nx⟩ (by simp only; omega) rfl⟩
      ·have c0:decide ((ty:Int)=0)=false:=decide_eq_false (by omega)
       rw [if_neg k0] at i4
       by_cases k1:ty=1
       ·have c1:decide ((ty:Int)=1)=true:=decide_eq_true (by omega)
        rw [if_pos k1] at i4
        have q1:codeOk (codeV fixL):=codeOk_codeV fix_sgs.1 fix_sgs.2.2.1
        have q2:codeOk (codeV fixD):=codeOk_codeV fix_sgs.2.1 fix_sgs.2.2.2
        split at i4
        ·rename_i e hst
         simp only [b_iraw_0,ibitS,ibitX,inumS,inumX,unB_Bs,Int.toNat_natCast,Int.reduceToNat,ifixS,isignsX,codeV,signs_agg,hb1,hn,hst,c0,c1,go_sem,reduceDiv,reduceMod,↓reduceIte,reduceEqDiff,Nat.reduceBEq,Nat.reduceLT,reduceAdd,Int.reduceLT,Int.reduceLE,Int.reduceToNat]
         exact ⟨hbp,hnp,⟨h1,by omega,by omega,hou,i3,q1,q2⟩,thr i4.symm rfl (by decide) rfl rfl rfl⟩
        ·rename_i o p3 hst
         obtain ⟨z1,z2,z3,z4⟩:=signs_pos (by omega) fix_sgs.1 fix_sgs.2.1 hst
         rw [bitsOf_length] at z2
         have ev:o1.length+(o.length - o1.length)=o.length:=by omega
         have nx:(x=0∧rawGo td (bitsOf b) mo f p3 o=RR)∨(x=1∧RR=.ok (o,p3)):=by
          by_cases hx1:x=1
          ·rw [if_pos hx1] at i4; exact .inr ⟨hx1,i4.symm⟩
          ·rw [if_neg hx1] at i4; exact .inl ⟨by omega,i4⟩
         simp only [b_iraw_0,ibitS,ibitX,inumS,inumX,unB_Bs,Bs_length,Int.toNat_natCast,Int.reduceToNat,ifixS,isignsS,isignsX,codeV,signs_agg,hb1,hn,hst,c0,c1,ev,go_sem,reduceDiv,reduceMod,↓reduceIte,reduceEqDiff,Nat.reduceBEq,Nat.reduceLT,reduceAdd,Int.reduceLT,Int.reduceLE,Int.reduceToNat]
         refine ⟨hbp,hnp,⟨h1,by omega,by omega,hou,q1,q2⟩,hR _ ⟨f,x,p3,o⟩ ⟨by simp only; omega,by simp only; omega,by simp only; omega,nx⟩ (by simp only; omega) rfl⟩
       ·have c1:decide ((ty:Int)=1)=false:=decide_eq_false (by omega)
        rw [if_neg k1] at i4
        by_cases k2:ty=2
        ·have c2:decide ((ty:Int)=2)=true:=decide_eq_true (by omega)
         rw [if_pos k2] at i4
         split at i4
         ·rename_i e hst
          split at hst
          ·rename_i e' htd
           injection hst with hst; subst hst
           simp only [b_iraw_0,ibitS,ibitX,inumS,inumX,unB_Bs,Int.toNat_natCast,Int.reduceToNat,itoldX,hb1,hn,htd,c0,c1,c2,go_sem,reduceDiv,reduceMod,↓reduceIte,reduceEqDiff,Nat.reduceBEq,Nat.reduceLT,reduceAdd,Int.reduceLT,Int.reduceLE,Int.reduceToNat]
           exact ⟨hbp,hnp,⟨h1,by omega,by omega,fun h=>h9 (by rw [← i4,h])⟩,thr i4.symm rfl (by decide) rfl rfl rfl⟩
          ·rename_i cc p4 htd
           obtain ⟨ls,ds⟩:=cc
           obtain ⟨y1,y2,y3,y4⟩:=hTd.pos (by rw [bitsOf_length]; omega) htd
           rw [bitsOf_length] at y2
           have q1:codeOk (codeV ls):=codeOk_codeV (fun i hi=>by have:=sgs_lt ls i hi; omega) (by have:=tot_le ls 15; omega)
           have q2:codeOk (codeV ds):=codeOk_codeV (fun i hi=>by have:=sgs_lt ds i hi; omega) (by have:=tot_le ds 15; omega)
           simp only [b_iraw_0,ibitS,ibitX,inumS,inumX,unB_Bs,Int.toNat_natCast,Int.reduceToNat,itoldS,itoldX,isignsX,codeV,signs_agg,hb1,hn,htd,hst,c0,c1,c2,go_sem,reduceDiv,reduceMod,↓reduceIte,reduceEqDiff,Nat.reduceBEq,Nat.reduceLT,reduceAdd,Int.reduceLT,Int.reduceLE,Int.reduceToNat]
           exact ⟨hbp,hnp,⟨h1,by omega⟩,⟨h1,by omega,by omega,hou,i3,q1,q2⟩,thr i4.symm rfl (by decide) rfl rfl rfl⟩
         ·rename_i o p3 hst
          split at hst
          ·cases hst
          ·rename_i cc p4 htd
           obtain ⟨ls,ds⟩:=cc
           obtain ⟨y1,y2,y3,y4⟩:=hTd.pos (by rw [bitsOf_length]; omega) htd
           rw [bitsOf_length] at y2
           have w1:∀ i∈sgs ls,i<320:=fun i hi=>by have:=sgs_lt ls i hi; omega
           have w2:∀ i∈sgs ds,i<320:=fun i hi=>by have:=sgs_lt ds i hi; omega
           have q1:codeOk (codeV ls):=codeOk_codeV w1 (by have:=tot_le ls 15; omega)
           have q2:codeOk (codeV ds):=codeOk_codeV w2 (by have:=tot_le ds 15; omega)
           obtain ⟨z1,z2,z3,z4⟩:=signs_pos (by omega) w1 w2 hst
           rw [bitsOf_length] at z2
           have ev:o1.length+(o.length - o1.length)=o.length:=by omega
           have nx:(x=0∧rawGo td (bitsOf b) mo f p3 o=RR)∨(x=1∧RR=.ok (o,p3)):=by
            by_cases hx1:x=1
            ·rw [if_pos hx1] at i4; exact .inr ⟨hx1,i4.symm⟩
            ·rw [if_neg hx1] at i4; exact .inl ⟨by omega,i4⟩
           simp only [b_iraw_0,ibitS,ibitX,inumS,inumX,unB_Bs,Bs_length,Int.toNat_natCast,Int.reduceToNat,itoldS,itoldX,isignsS,isignsX,codeV,signs_agg,hb1,hn,htd,hst,c0,c1,c2,ev,go_sem,reduceDiv,reduceMod,↓reduceIte,reduceEqDiff,Nat.reduceBEq,Nat.reduceLT,reduceAdd,Int.reduceLT,Int.reduceLE,Int.reduceToNat]
           refine ⟨hbp,hnp,⟨h1,by omega⟩,⟨h1,by omega,by omega,hou,q1,q2⟩,hR _ ⟨f,x,p3,o⟩ ⟨by simp only; omega,by simp only; omega,by simp only; omega,nx⟩ (by simp only; omega) rfl⟩
        ·have c2:decide ((ty:Int)=2)=false:=decide_eq_false (by omega)
         rw [if_neg k2] at i4
         simp only [b_iraw_0,ibitS,ibitX,inumS,inumX,unB_Bs,Int.toNat_natCast,Int.reduceToNat,ifailX,hb1,hn,c0,c1,c2,go_sem,reduceDiv,reduceMod,↓reduceIte,reduceEqDiff,Nat.reduceBEq,Nat.reduceLT,reduceAdd,Int.reduceLT,Int.reduceLE,Int.reduceToNat]
         exact ⟨hbp,hnp,thr i4.symm rfl (by decide) rfl rfl rfl⟩
    ·rw [hb1] at i4
     simp only at i4
     simp only [b_iraw_0,ibitX,unB_Bs,Int.toNat_natCast,hb1,go_sem,reduceDiv,reduceMod,↓reduceIte,reduceEqDiff,Nat.reduceBEq,reduceAdd]
     exact ⟨⟨h1,by omega,by omega⟩,thr i4.symm rfl (by decide) rfl rfl rfl⟩
  ·subst i4
   injection hs with hs; subst hs
   have e1:((p:Int)+7).tdiv 8=(((p+7) / 8:Nat):Int):=by rw [Int.tdiv_eq_ediv_of_nonneg (by omega)]; omega
   have c9:decide (((1:Nat):Int)=0)=false:=rfl
   simp only [b_iraw_0,go_sem,reduceDiv,reduceMod,↓reduceIte,Int.reduceEq]
   have q1:inI ((p:Int)+7):=by (first | omega | (simp only [inI]; omega))
   have q2:inI ((((p+7) / 8:Nat)):Int):=by (first | omega | (simp only [inI]; omega))
   unfold t_iraw_0
   rw [x_seq,x_draw,if_pos rfl]
   refine all3_tab (σ:=sgT [[.top,.top,.top,.top,.ref 0 0 0,.ref 1 0 0,.ref 2 0 0,.ref 3 0 0,.int .i64 1,.top,.top,.top,.top,.top,.top,.int .i64 1],[.bool false,.top,.top,.top,.top,.top,.top,.top,.top,.top,.top,.top,.top,.top,.top,.top]]
    [(some 45,.ref 3 0 0),(some 46,.ref 3 0 0),(some 47,.ref 3 2 0),(some 48,.own 4 o1.length),(some 49,.ref 3 0 0),(some 50,.ref 3 0 0),(some 51,.ref 3 0 0),(some 52,.ref 3 1 0),(some 53,.int .i64 (p:Int)),(some 54,.int .i64 ((p:Int)+7)),(some 55,.int .i64 (((p+7) / 8:Nat):Int)),(none,.top),(none,.top),(none,.top)]
    (fun dn=>[.cells 22 [(1,if ((dn &&& 2048) == 0)=true then .con (.slice none 0 0) else .own 4 o1.length)],.cells 3 [(1,.int .i64 (if ((dn &&& 4096) == 0)=true then 0 else (((p+7) / 8:Nat):Int)))],.cells 27 [(1,.int .i64 0)],.cells 185 [(1,.sl k (Bs b)),(1,.int .i64 (p:Int)),(1,.own 4 o1.length),(1,.int .i64 (mo:Int))],.row 5 1 o1.length (Bs o1)]))
    (r:=[[1,16],[3,17,48],[7,19,49,112],[15,23,51,113,240],[31,55,115,241,496,2063],[63,119,243,497,1008,2079],[127,247,499,1009,2032,2111],[255,503,1011,2033,2175],[511,1015,2035,2303],[1023,2039,2559],[2047,3071],[4095],[8191],[16383]]) (L:=[0]) ?_ 0 (List.mem_cons_self ..)
   simp only [tab3,lev3,lst3,memB,sgT,frT,r_iraw,e1,List.map,Nat.reduceAnd,Nat.reduceOr,Nat.reducePow,q1,q2,and_self,go_sem,reduceDiv,reduceMod,↓reduceIte,reduceEqDiff,Nat.reduceBEq,reduceSub,reduceAdd,reduceLeDiff,reduceCtorEq,Int.reduceNe]
 ·cases hs
end Go.Proofs.YtakolikdebfkeaaGreatDoor
