import Derived.Test.YtakolikdebfkeaaGreatDoorQAMS
open Nat (reduceDiv reduceMod reduceSub reduceAdd reduceLeDiff reduceEqDiff)
set_option linter.all false
namespace Go.Proofs.YtakolikdebfkeaaGreatDoor
open Go.RowKit
def constB:Nat→AV→Bool
 | 0,_=>false
 | d+1,x=>match x with
  | .int _ _ | .bool _ | .str _ | .con _ | .blob _=>true
  | .agg ps=>ps.all fun p=>constB d p.2
  | .iface _ x=>constB d x
  | _=>false
theorem const_cs {w w' : World} {S S' : Nat→Prop} {ρ ρ' : Rho}:∀ (d:Nat) {x:AV} {us:List Value},constB d x=true→Cs w S ρ x us→Cs w' S' ρ' x us:=by
 intro d
 induction d with
 | zero=>intro x us h; cases h
 | succ d ih =>
  intro x us h hc
  cases hc <;> simp only [constB,Bool.false_eq_true] at h
  case int k n=>exact .int k n
  case bool b=>exact .bool b
  case str l=>exact .str l
  case con h1=>exact .con _ h1
  case blob h1=>exact .blob _ h1
  case agg ps uss h1 h2 h3 =>
   rw [List.all_eq_true] at h
   refine .agg ps uss h1 h2 fun i hi=>ih (h _ ?_) (h3 i hi)
   rw [List.getD_eq_getElem?_getD,List.getElem?_eq_getElem hi]
   exact List.getElem_mem hi
  case iface t x us h1=>exact .iface t x us (ih h h1)
theorem const_vl {w w' : World} {S S' : Nat→Prop} {ρ ρ' : Rho} {x:AV} {v:Value} {d:Nat} (h:constB d x=true) (hv:Vl w S ρ x v):Vl w' S' ρ' x v:=by
 have nt:∀ xs,x≠.tup xs:=by rintro xs rfl; cases d <;> cases h
 have n0:x≠.top:=by rintro rfl; cases d <;> cases h
 obtain ⟨us,hc,e⟩:=hv.cs n0 nt
 exact Vl1.vl (.inr ⟨us,const_cs d h hc,e⟩)
abbrev XSpec:=List AV→List AObj→Option (AV × Prop)
def FnPX (P:Program) (f:FuncId) (sp:XSpec):Prop:=∀ «as» hp x p,sp «as» hp=some (x,p)→p→∀ (w:World) (S:Nat→Prop) (ρ:Rho) (args:List Value),HeapOk (Lent ρ hp) w S ρ hp w→ArgsOk w S ρ «as» args →
 Calls P f args.toArray w fun e w' => ∃ v,e=panT v∧(∀ (w:World) (S:Nat→Prop) (ρ:Rho),Vl w S ρ x v)∧Kept (Lent ρ hp) w w'
abbrev PhX:=FuncId→Option (List Bool × XSpec)
def PhXOk (P:Program) (Φ:PhX):Prop:=∀ f m sp,Φ f=some (m,sp)→FnPX P f sp∧FnIn P f
def phXL:List (FuncId × List Bool × XSpec)→PhX
 | [],_=>none
 | (f,m,sp) :: r,g=>if g=f then some (m,sp) else phXL r g
theorem phXL_nil {P:Program}:PhXOk P (phXL []):=fun _ _ _ h=>by cases h
theorem phXL_cons {P : Program} {f : FuncId} {m : List Bool} {sp : XSpec} {r : List (FuncId × List Bool × XSpec)} (h : FnPX P f sp) (hin : (match P.funcs[f]? with | some fn => !(fn.name == "runtime.NumGoroutine") && !fn.body.isNone | none => false) = true) (hr : PhXOk P (phXL r)) : PhXOk P (phXL ((f, m, sp) :: r)) := by
 intro g m' sp' hg
 simp only [phXL] at hg
 split at hg
 ·rename_i e; subst e
  simp only [Option.some.injEq, Prod.mk.injEq] at hg
  obtain ⟨rfl, rfl⟩ := hg
  refine ⟨h, ?_⟩
  split at hin
  ·rename_i fn hfn
   simp only [Bool.and_eq_true, Bool.not_eq_true'] at hin
   exact ⟨fn, hfn, hin.1, hin.2⟩
  ·cases hin
 ·exact hr g m' sp' hg
def pcall2 (hp:List AObj) (sp:XSpec) («as»:List AV) (brw ids:List Nat):Option (AV × List Nat × Prop) :=
 match mapO (ren (posOf ids) 4) «as»,lentO hp ids with
 | some as2,some hc=>if okIds ids brw=true then (match sp as2 hc with
  | some (x,p)=>some (x,ids,p)
  | none=>none) else none
 | _,_=>none
def pcall1 (hp:List AObj) (sp:XSpec):Option (List AV × List Nat)→Option (AV × List Nat × Prop)
 | some («as»,brw)=>pcall2 hp sp «as» brw (closeIds hp 2 (addNew [] («as».flatMap (idsOf 4))))
 | none=>none
def pcall0 (hp:List AObj) («as»:List AV):Option (List Bool × XSpec)→Option (AV × List Nat × Prop)
 | some (m,sp)=>pcall1 hp sp (bor hp m «as»)
 | none=>none
def thr (ΦX:PhX) (s:St):AOp→Option (AV × List Nat × Prop)
 | .call f as' => pcall0 s.hp (as'.map s.ev) (ΦX f)
 | .pan x=>match s.ev x with
  | .iface t y=>if constB 4 (.iface t y)=true then some (.iface t y,[],True) else none
  | _=>none
 | _=>none
def ObjsB (ρ:Rho) (hp:List AObj) (ids:List Nat) (b:Nat):Prop:=∃ (id:Nat) (o:AObj),id∈ids∧hp[id]?=some o∧o.blk ρ id=some b
def RelX (F:Nat→Prop) (w0:World) (S0:Nat→Prop) (ρ0:Rho) (ds:List Deferred) (x:AV) (s:St) (ids:List Nat) (v:Value) (a:Act) (w:World):Prop :=
 (∀ (w:World) (S:Nat→Prop) (ρ:Rho),Vl w S ρ x v)∧a.defers=ds∧∃ w1 S ρ,HeapOk F w0 S ρ s.hp w1∧Kept (ObjsB ρ s.hp ids) w1 w∧Ext w0 w1 S0 S ρ0 ρ∧FrOk w1 S ρ s.fr a.tmps
theorem RelX.bare {F:Nat→Prop} {w0 w:World} {S0:Nat→Prop} {ρ0:Rho} {ds:List Deferred} {x:AV} {s:St} {ids:List Nat} {v:Value} {a:Act} (h:RelX F w0 S0 ρ0 ds x s ids v a w):RelX F w0 S0 ρ0 ds x ⟨[],s.hp⟩ ids v a w:=by
 obtain ⟨h1,h2,w1,S,ρ,h3,h4,h5,h6⟩:=h
 exact ⟨h1,h2,w1,S,ρ,h3,h4,h5,h6.1,fun _=>Vl.top _⟩
def AOp.isThr:AOp→Bool
 | .call _ _ | .pan _=>true
 | _=>false
def tq3 (r:Option (AV × List Nat × Prop)) (T:AV→St→List Nat→Prop) (st:St):Prop :=
 match r with
 | some (x,ids,p)=>p∧T x st ids
 | none=>False
def arun3 (Φ:Phi) (ΦX:PhX) (T:AV→St→List Nat→Prop):List AOper→(S2→Prop)→S2→Prop
 | [],K,s=>K s
 | ⟨d,op,none⟩ :: r,K,s=>if op.isThr=true then (if (thr ΦX (toS s) op).isSome=true then tq3 (thr ΦX (toS s) op) T (toS s) else aq2 (astep Φ (toS s) op) s d (arun3 Φ ΦX T r K)) else aq2 (astep Φ (toS s) op) s d (arun3 Φ ΦX T r K)
 | ⟨d,op,some g⟩ :: r,K,s=>arun2 Φ (⟨d,op,some g⟩ :: r) K s
def step3 (Φ:Phi) (ΦX:PhX) (T:AV→St→List Nat→Prop) (o:AOper) (s:S2) (K:S2→Prop):Prop :=
 match o with
 | ⟨d,op,none⟩=>if op.isThr=true then (if (thr ΦX (toS s) op).isSome=true then tq3 (thr ΦX (toS s) op) T (toS s) else aq2 (astep Φ (toS s) op) s d K) else aq2 (astep Φ (toS s) op) s d K
 | ⟨_,_,some _⟩=>False
def next3 (Φ:Phi) (ΦX:PhX) (T:AV→St→List Nat→Prop) (K:Nat→S2→Prop) (s:S2) (dn:Nat):Nat→List Nat→List AOper→Prop
 | i,d :: deps,o :: l=>(if ((dn &&& 2 ^ i) == 0 && (d &&& dn) == d)=true then step3 Φ ΦX T o s (K (dn ||| 2 ^ i)) else True)∧next3 Φ ΦX T K s dn (i+1) deps l
 | _,[],[]=>True
 | _,_,_=>False
def all3 (Φ:Phi) (ΦX:PhX) (T:AV→St→List Nat→Prop) (deps:List Nat) (l:List AOper) (K:S2→Prop):Nat→Nat→S2→Prop
 | 0,_,s=>K s
 | n+1,dn,s=>next3 Φ ΦX T (all3 Φ ΦX T deps l K n) s dn 0 deps l
section
variable {P : Program} {Φ : Phi} {ΦX : PhX} {F : Nat → Prop} {w0 w : World} {S S0 : Nat → Prop} {ρ ρ0 : Rho} {N m : Nat} {ds : List Deferred} {a : Act} {T : AV → St → List Nat → Prop} {hp : List AObj}
theorem call_pre {hpM hc:List AObj} {mm:List Bool} {«as» as1 as2:List AV} {brw ids:List Nat} {args:List Value} (H:HeapOk F w0 S ρ hp w)
  (hM:∀ (i:Nat) (o:AObj),hpM[i]?=some o→o≠.gone→hp[i]?=some o) (ha:ArgsOk w S ρ «as» args) (h1:bor hpM mm «as»=some (as1,brw)) (h2:mapO (ren (posOf ids) 4) as1=some as2)
  (h3:lentO hp ids=some hc) (h4:okIds ids brw=true) :
  ∃ Sc ρc,HeapOk (Lent ρc hc) w Sc ρc hc w∧ArgsOk w Sc ρc as2 args∧∀ b,Lent ρc hc b→ObjsB ρ hp ids b:=by
 simp only [okIds,Bool.and_eq_true,List.all_eq_true,Bool.not_eq_true',List.contains_eq_mem,decide_eq_false_iff_not] at h4
 obtain ⟨hnd,hdis⟩:=h4
 have hinj:=nodupB_ok hnd
 obtain ⟨g1,g2⟩:=mapO_get h3
 have lent:∀ (i:Nat) (o:AObj),hc[i]?=some o→∃ k ok,ids[i]?=some k∧hp[k]?=some ok∧renObj (posOf ids) ok=some o∧posOf ids k=some i:=by
  intro i o ho
  have hi:i<ids.length:=by rw [← g1]; exact (List.getElem?_eq_some_iff.1 ho).1
  obtain ⟨o',ho',hr⟩:=g2 i _ (List.getElem?_eq_getElem hi)
  rw [ho] at ho'; injection ho' with ho'; subst ho'
  split at hr
  ·rename_i ok hok
   refine ⟨ids[i],ok,List.getElem?_eq_getElem hi,hok,hr,?_⟩
   cases hp:posOf ids ids[i] with
   | none=>exact absurd (List.getElem?_eq_getElem hi) (posOf_none hp i)
   | some j=>rw [hinj i j _ (List.getElem?_eq_getElem hi) (posOf_ok hp)]
  ·cases hr
 let ρc:Rho:=fun i v=>match ids[i]? with
  | some k=>ρ k v
  | none=>none
 let Sc:Nat→Prop:=fun b=>S b∨Brw ρ hpM brw b
 have hρc:∀ {i k:Nat},ids[i]?=some k→∀ v,ρc i v=ρ k v:=fun {i k} h v=>by simp only [ρc,h]
 have hσ:∀ i j,posOf ids i=some j→∀ v L,ρ i v=some L→ρc j v=some L:=fun i j hij v L h=>by rw [hρc (posOf_ok hij)]; exact h
 have brwHp:∀ b,Brw ρ hpM brw b→∃ id o,id∈brw∧hp[id]?=some o∧o.blk ρ id=some b:=by
  rintro b ⟨id,o,e1,e2,e3⟩
  exact ⟨id,o,e1,hM id o e2 (by rintro rfl; cases e3),e3⟩
 have lentObj:∀ (i:Nat) (o:AObj),hc[i]?=some o→∃ k ok,ids[i]?=some k∧hp[k]?=some ok∧posOf ids k=some i∧ObjOk w Sc ρc i o∧o.ver=ok.ver∧(∀ b,o.blk ρc i=some b→ok.blk ρ k=some b):=by
  intro i o ho
  obtain ⟨k,ok,e1,e2,e3,e4⟩:=lent i o ho
  obtain ⟨k1,k2,k3⟩:=renObj_ok (S' := Sc) (ρ' := ρc) hσ e4 (fun v hv=>by rw [hρc e1]; exact hv) e3 (H.ob k ok e2) (fun b hb hs=>by
   rcases hs with hs | hs
   ·exact hs
   ·obtain ⟨id,o2,d1,d2,d3⟩:=brwHp b hs
    refine absurd hb (H.apart id k o2 ok (fun e=>?_) d2 e2 b d3)
    exact hdis k (List.mem_of_getElem? e1) (e ▸ d1)) (.inl fun b hb=>.inl hb)
  exact ⟨k,ok,e1,e2,e4,k1,k2,k3⟩
 have Hc:HeapOk (Lent ρc hc) w Sc ρc hc w:=by
  refine ⟨Kept.refl _ _,fun i o ho=>?_,fun i j y z hij hy hz b hyb hzb=>?_,fun i o ho b hb=>.inl ⟨i,o,ho,hb⟩,fun b hb=>?_,fun i hi v=>?_,fun i o ho v hv=>?_⟩
  ·obtain ⟨k,ok,e1,e2,e3,e4,e5,e6⟩:=lentObj i o ho; exact e4
  ·obtain ⟨k,ok,e1,e2,e3,e4,e5,e6⟩:=lentObj i y hy
   obtain ⟨k',ok',d1,d2,d3,d4,d5,d6⟩:=lentObj j z hz
   refine H.apart k k' ok ok' (fun e=>?_) e2 d2 b (e6 b hyb) (d6 b hzb)
   subst e; exact hij (hinj i j k e1 d1)
  ·rcases hb with hb | hb
   ·exact H.slt b hb
   ·obtain ⟨id,o,d1,d2,d3⟩:=brwHp b hb
    exact (H.ob id o d2).lt b d3
  ·have:ids[i]?=none:=List.getElem?_eq_none (by omega)
   simp only [ρc,this]
  ·obtain ⟨k,ok,e1,e2,e3,e4,e5,e6⟩:=lentObj i o ho
   rw [hρc e1]; exact H.vers k ok e2 v (by rw [← e5]; exact hv)
 have ha2:ArgsOk w Sc ρc as2 args:=by
  have hb1:=bor_ok (Sc:=Sc) (fun i o ho hne=>H.ob i o (hM i o ho hne)) (brw:=brw) (fun b hb=>.inl hb) (fun b hb=>.inr hb) h1 (fun i hi=>hi) ha
  obtain ⟨m1,m2⟩:=mapO_get h2
  refine ⟨hb1.1,by rw [hb1.2,m1],fun i hi=>?_⟩
  obtain ⟨y,y1,y2⟩:=m2 i _ (List.getElem?_eq_getElem (by omega))
  have:=hb1.3 i (by omega)
  rw [List.getD_eq_getElem?_getD (l:=as1),List.getElem?_eq_getElem (show i<as1.length by omega)] at this
  rw [List.getD_eq_getElem?_getD (l:=as2),y1]
  exact ren_vl hσ y2 this
 exact ⟨Sc,ρc,Hc,ha2,fun b ⟨i,o,ho,hb⟩=>by
  obtain ⟨k,ok,e1,e2,e3,e4,e5,e6⟩:=lentObj i o ho
  exact ⟨k,ok,List.mem_of_getElem? e1,e2,e6 b hb⟩⟩
theorem Kept.cont {G:Nat→Prop} {w1 w2:World} (h1:Kept F w0 w1) (h2:Kept G w1 w2) (h:∀ b,G b→F b∨w0.heap.size≤b):Kept F w0 w2 :=
 ⟨h2.os.trans h1.os,h2.tape.trans h1.tape,h2.output.trans h1.output,Nat.le_trans h1.size h2.size,fun i hi hn=>by
  rw [h2.block i (Nat.lt_of_lt_of_le hi h1.size) (fun hg=>(h i hg).elim hn (fun h=>by omega))]
  exact h1.block i hi hn⟩
theorem Kept.mono {G:Nat→Prop} {w1 w2:World} (h:Kept F w1 w2) (hh:∀ b,F b→G b):Kept G w1 w2 :=
 ⟨h.os,h.tape,h.output,h.size,fun i hi hn=>h.block i hi (fun hf=>hn (hh i hf))⟩
theorem thr_ok (hX:PhXOk P ΦX) {o:Oper} {op:AOp} {s:St} {x:AV} {ids:List Nat} {p:Prop} {K:Act→World→Prop} {Q:Exit→Act→World→Prop} (R:Rel F w0 S0 ρ0 N ds s a w) (hm:MtA P o.op op) (h:thr ΦX s op=some (x,ids,p)) (hp' : p)
  (hT:∀ v a' w',RelX F w0 S0 ρ0 ds x s ids v a' w' → Q (.panic [{ v,recovered:=false }]) a' w'):o.wp P a w K Q:=by
 obtain ⟨S,ρ,R⟩:=R
 cases op <;> simp only [thr,reduceCtorEq] at h
 case call f args =>
  simp only [MtA] at hm
  obtain ⟨A,ts,ho,rfl⟩:=hm
  cases hf:ΦX f with
  | none=>rw [hf] at h; cases h
  | some ms =>
   obtain ⟨mm,sp⟩:=ms
   rw [hf] at h
   obtain ⟨hfn,hin⟩:=hX f mm sp hf
   have hrun:(execOp a.eval o).run P w=.ok (.enter f (A.toList.map a.eval).toArray) w:=by
    have:=run_call (w:=w) ho (show a.eval (.func f)=.func (.func f) #[] #[] from rfl) hin
    rw [this]; congr 2; apply Array.ext'; simp
   simp only [pcall0,pcall1] at h
   split at h
   ·rename_i as1 brw hbor
    simp only [pcall2] at h
    split at h
    ·rename_i as2 hc h2 h3
     split at h
     ·rename_i h4
      split at h
      ·rename_i x' p' h5
       simp only [Option.some.injEq,Prod.mk.injEq] at h
       obtain ⟨rfl,rfl,rfl⟩:=h
       obtain ⟨Sc,ρc,Hc,ha2,hl⟩:=call_pre R.heap (fun _ _ h _=>h) (args_ok R.fr A.toList) hbor h2 h3 h4
       unfold Oper.wp
       rw [hrun,Oper.upon_enter]
       refine (hfn as2 hc x' p' h5 hp' w Sc ρc _ Hc ha2).mono ?_
       rintro e w' ⟨v,rfl,hv,hk⟩
       exact hT v a w' ⟨hv,R.dfr,w,S,ρ,R.heap,hk.mono hl,R.ext,R.fr⟩
      ·cases h
     ·cases h
    ·cases h
   ·cases h
 case pan x' =>
  obtain ⟨X,ho,rfl⟩:∃ X,o.op=.panic X∧x' = opd X:=hm
  split at h
  ·rename_i t y hy
   split at h
   ·rename_i hc
    simp only [Option.some.injEq,Prod.mk.injEq] at h
    obtain ⟨rfl,rfl,rfl⟩:=h
    have hv:=ev_ok R.fr X
    rw [hy] at hv
    obtain ⟨u,hu⟩:∃ u,a.eval X=.iface t u:=by
     obtain ⟨us,hcs,e⟩:=hv.cs (by simp) (by simp)
     cases hcs with
     | iface _ _ us h1=>exact ⟨_,e⟩
    have hrun:(execOp a.eval o).run P w=.halt (.panic (a.eval X)) w:=by
     simp only [execOp,ho,hu]; rfl
    unfold Oper.wp
    rw [hrun,Oper.upon_panic]
    exact hT _ a w ⟨fun w' S' ρ' => const_vl hc hv,R.dfr,w,S,ρ,R.heap,Kept.refl _ _,R.ext,R.fr⟩
   ·cases h
  ·cases h
theorem step3_ok (hΦ:PhiOk P Φ) (hX:PhXOk P ΦX) {ops:Array Oper} {o:Oper} {o' : AOper} {s:S2} {K:S2→Prop} {K' : Act→World→Prop} {Q:Exit→Act→World→Prop} (hm:MtO P N ops o o') (h:step3 Φ ΦX T o' s K)
  (R:Rel F w0 S0 ρ0 N ds (toS s) a w) (hK:∀ s a w,K s→Rel F w0 S0 ρ0 N ds (toS s) a w→K' a w) (hT:∀ x hp ids v a w,T x hp ids→RelX F w0 S0 ρ0 ds x hp ids v a w→Q (.panic [{ v,recovered:=false }]) a w) :
  o.guard=none∧o.wp P a w K' Q:=by
 obtain ⟨hd,hop,hdN,hg⟩:=hm
 obtain ⟨d,op,g⟩:=o'
 cases g with
 | some g=>exact h.elim
 | none =>
  cases hgr:o.guard with
  | some x=>rw [hgr] at hg; exact hg.elim
  | none =>
   refine ⟨rfl,?_⟩
   have go:aq2 (astep Φ (toS s) op) s d K→o.wp P a w K' Q:=fun h2=>by
    unfold aq2 at h2
    split at h2
    ·rename_i x hp p hs
     refine astep_ok hΦ R hop hs h2.1 hdN fun a' w' R' => hK _ a' w' h2.2 ?_
     rw [hd] at R'
     exact R'.toS ((R2.toS _).put _ _ _)
    ·exact h2.elim
   simp only [step3] at h
   split at h
   ·split at h
    ·unfold tq3 at h
     split at h
     ·rename_i x ids p hc
      exact thr_ok hX R hop hc h.1 fun v a' w' hr=>hT _ _ _ _ _ _ h.2 hr
     ·exact h.elim
    ·exact go h
   ·exact go h
theorem arun3_ok (hΦ:PhiOk P Φ) (hX:PhXOk P ΦX) {ops:Array Oper} {Q:Exit→Act→World→Prop} {K:S2→Prop} (hK:∀ s a w,K s→Rel F w0 S0 ρ0 N ds (toS s) a w→Q .normal a w)
  (hT:∀ x hp ids v a w,T x hp ids→RelX F w0 S0 ρ0 ds x hp ids v a w→Q (.panic [{ v,recovered:=false }]) a w):∀ (l:List Oper) (l' : List AOper) (s:S2) (a:Act) (w:World),
  All2 (MtO P N ops) l l' → arun3 Φ ΦX T l' K s→Rel F w0 S0 ρ0 N ds (toS s) a w→wpList P ops Q l a w:=by
 intro l
 induction l with
 | nil =>
  intro l' s a w hm h R
  cases l' with
  | nil=>exact hK s a w h R
  | cons _ _=>exact hm.elim
 | cons o l ih =>
  intro l' s a w hm h R
  cases l' with
  | nil=>exact hm.elim
  | cons o' l' =>
   obtain ⟨d,op,g⟩:=o'
   cases g with
   | none =>
    obtain ⟨hg,hw⟩:=step3_ok (ops:=ops) (K' := wpList P ops Q l) (Q:=Q) (T:=T) (K:=arun3 Φ ΦX T l' K) hΦ hX hm.1 h R (fun s a w hk R=>ih l' s a w hm.2 hk R) hT
    unfold wpList
    rw [if_pos (by simp [Region.wanted,hg])]
    exact .inl hw
   | some g =>
    obtain ⟨t,b⟩:=g
    simp only [arun3] at h
    refine arun_ok (K:=fun s=>∃ s2,R2 s s2∧K s2) hΦ (fun s a w ⟨s2,h1,h2⟩ R=>hK s2 a w h2 (R.toS h1)) _ _ (toS s) a w hm ?_ R
    exact arun2_ok _ (fun s=>∃ s2,R2 s s2∧K s2) K (fun s s2 h1 h2=>⟨s2,h1,h2⟩) (toS s) s (R2.toS _) h
theorem next3_get {K:Nat→S2→Prop} {s:S2} {dn:Nat}:∀ {l:List AOper} {deps:List Nat} {i:Nat},next3 Φ ΦX T K s dn i deps l→∀ j,j<l.length→(!dn.testBit (i+j) && (deps.getD j 0 &&& dn) == deps.getD j 0)=true→step3 Φ ΦX T (l.getD j dflO) s (K (dn ||| 2 ^ (i+j))):=by
 intro l
 induction l with
 | nil=>intro deps i _ j hj; simp at hj
 | cons o l ih =>
  intro deps i h j hj hr
  cases deps with
  | nil=>exact h.elim
  | cons d deps =>
   obtain ⟨h1,h2⟩:=h
   cases j with
   | zero =>
    simp only [List.getD_cons_zero,Nat.add_zero] at hr ⊢
    rw [if_pos] at h1
    ·exact h1
    ·simp only [Bool.and_eq_true,Bool.not_eq_true',beq_iff_eq] at hr ⊢
     exact ⟨and_pow_of hr.1,hr.2⟩
   | succ j =>
    simp only [List.getD_cons_succ] at hr ⊢
    rw [show i+(j+1)=i+1+j by omega] at hr ⊢
    exact ih h2 j (by simpa using hj) hr
theorem aany3_ok (hΦ:PhiOk P Φ) (hX:PhXOk P ΦX) {ops:Array Oper} {deps:List Nat} {l:List AOper} {s0:S2} {id:Nat} {Q:Exit→Act→World→Prop} {K:S2→Prop} (hm:All2 (MtO P N ops) ops.toList l) (hd:anyOk P ops deps l) (h:all3 Φ ΦX T deps l K l.length 0 s0) (R:Rel F w0 S0 ρ0 N ds (toS s0) a w)
  (hK:∀ s a w,K s→Rel F w0 S0 ρ0 N ds (toS s) a w→Q .normal a w) (hT:∀ x hp ids v a w,T x hp ids→RelX F w0 S0 ρ0 ds x hp ids v a w→Q (.panic [{ v,recovered:=false }]) a w):(Code.region id ops true).wp P Q a w:=by
 obtain ⟨hf,hb⟩:=hd
 simp only [anyB,Bool.and_eq_true,beq_iff_eq] at hb
 obtain ⟨⟨d1,d2⟩,d3⟩:=hb
 obtain ⟨m1,m2⟩:=all2_get hm
 have edge:∀ (i:Nat) (o:Oper),ops[i]?=some o→∀ k∈esO o,k<i:=by
  intro i o ho k hk
  have:=ltAll_ok d2 i (Array.getElem?_eq_some_iff.1 ho).1
  rw [ho] at this
  simp only [Option.map_some,Option.getD_some,List.all_eq_true,decide_eq_true_eq] at this
  exact this k hk
 have bits:∀ (i:Nat) (o:Oper),ops[i]?=some o→∀ k,(deps.getD i 0).testBit k=true→k∈esO o:=by
  intro i o ho k hk
  have:=ltAll_ok d3 i (Array.getElem?_eq_some_iff.1 ho).1
  rw [ho] at this
  simp only [Option.map_some,Option.getD_some,Bool.and_eq_true,decide_eq_true_eq] at this
  have hkn:k<ops.size:=by
   rcases Nat.lt_or_ge k ops.size with h | h
   ·exact h
   ·have h2:=Nat.testBit_lt_two_pow (Nat.lt_of_lt_of_le this.1 (Nat.pow_le_pow_right (by omega) h))
    rw [hk] at h2; cases h2
  have h2:=ltAll_ok this.2 k hkn
  rw [hk] at h2
  simpa using h2
 have rdy:∀ (listed:Array Bool),listed.size=ops.size→Region.ready .any ops listed=[]→∀ k,k<ops.size→listed.getD k false=true:=by
  intro listed hs hr k
  induction k using Nat.strongRecOn with
  | _ k ih =>
   intro hk
   cases hb:listed.getD k false with
   | true=>rfl
   | false =>
    have:k∈Region.ready .any ops listed:=by
     rw [mem_ready]
     refine ⟨?_,ops[k],Array.getElem?_eq_getElem hk,fun e he hb=>?_⟩
     ·simpa [hs,hk] using hb
     ·have:=edge k _ (Array.getElem?_eq_getElem hk) e.on (by
       unfold esO
       rw [List.mem_filterMap]
       exact ⟨e,by simpa using he,by rw [if_pos hb]⟩)
      exact ih _ this (by omega)
    rw [hr] at this; cases this
 have all0:∀ {D:Nat→Bool} {n:Nat},(∀ k,k<n→D k=true)→cntD D n=0:=by
  intro D n
  induction n with
  | zero=>intro _; rfl
  | succ n ih=>intro h; simp only [cntD,h n (by omega),ih fun k hk=>h k (by omega),if_true]
 have go:∀ (fuel:Nat) (listed:Array Bool) (dn:Nat) (s:S2) (a:Act) (w:World),listed.size=ops.size→(∀ k,k<ops.size→dn.testBit k=listed.getD k false)→cntD (fun k=>listed.getD k false) ops.size=fuel→all3 Φ ΦX T deps l K fuel dn s →
   Rel F w0 S0 ρ0 N ds (toS s) a w→wpAny P .any ops Q fuel listed a w:=by
  intro fuel
  induction fuel with
  | zero =>
   intro listed dn s a w hs hc hn hA R
   have hall:=cntD_zero hn
   refine ⟨?_,hK _ _ _ hA R⟩
   cases hr:Region.ready .any ops listed with
   | nil=>rfl
   | cons x xs =>
    have hx:x∈Region.ready .any ops listed:=by rw [hr]; simp
    obtain ⟨h1,o,h2,_⟩:=mem_ready.1 hx
    have hxn:=(Array.getElem?_eq_some_iff.1 h2).1
    have:=hall x hxn
    simp [hs,hxn] at h1 this
    rw [h1] at this; cases this
  | succ fuel ih =>
   intro listed dn s a w hs hc hn hA R
   refine ⟨fun hr=>?_,fun i hi=>?_⟩
   ·rw [all0 (rdy listed hs hr)] at hn; cases hn
   obtain ⟨h1,o,h2,h3⟩:=mem_ready.1 hi
   have hin:=(Array.getElem?_eq_some_iff.1 h2).1
   have hDi:listed.getD i false=false:=by simpa [hs,hin] using h1
   have hes:∀ e∈esO o,listed.getD e false=true:=by
    intro e he
    unfold esO at he
    rw [List.mem_filterMap] at he
    obtain ⟨e',he',hb⟩:=he
    split at hb
    ·injection hb with hb; subst hb; exact h3 e' (by simpa using he') (by assumption)
    ·cases hb
   have hr:rdyB deps dn i=true:=by
    unfold rdyB
    rw [hc i hin,hDi,and_of_bits fun k hk=>?_]
    ·simp
    ·have:=bits i o h2 k hk
     rw [hc k (by have:=edge i o h2 k this; omega)]; exact hes k this
   have hil:i<l.length:=by omega
   have hst:=next3_get (i:=0) hA i hil (by rw [Nat.zero_add]; exact hr)
   rw [Nat.zero_add] at hst
   have hmo:=m2 i o (l.getD i dflO) (by rw [Array.getElem?_toList]; exact h2) (by rw [List.getD_eq_getElem?_getD,List.getElem?_eq_getElem hil]; rfl)
   have hset:(fun k=>(listed.setIfInBounds i true).getD k false)=addD (fun k=>listed.getD k false) i:=by
    funext k
    by_cases e:k=i
    ·subst e; simp [addD,hs,hin]
    ·rw [getD_set_ne false (Ne.symm e)]; simp [addD,e]
   obtain ⟨hog,hw⟩:=step3_ok (ops:=ops) (T:=T) (K' := wpAny P .any ops Q fuel (listed.setIfInBounds i true)) (Q:=Q) hΦ hX hmo hst R (fun s' a' w' hk R' => by
    refine ih _ (dn ||| 2 ^ i) _ _ _ (by simpa using hs) (fun k hk=>?_) ?_ hk R'
    ·have:(listed.setIfInBounds i true).getD k false=addD (fun k=>listed.getD k false) i k:=congrFun hset k
     rw [this,Nat.testBit_or,Nat.testBit_two_pow,hc k hk]
     unfold addD
     by_cases e:k=i
     ·subst e; simp
     ·simp [e,Ne.symm e]
    ·rw [hset]
     have:=cntD_add (D:=fun k=>listed.getD k false) (i:=i) (n:=ops.size) hDi
     rw [if_pos hin] at this; omega) hT
   unfold wpOp
   rw [h2]
   simp only
   rw [if_pos (by simp [Region.wanted,hog])]
   exact .inl hw
 have c0:∀ n,cntD (fun k=>(Array.replicate ops.size false).getD k false) n=n:=by
  intro n
  induction n with
  | zero=>rfl
  | succ n ih =>
   have:(Array.replicate ops.size false).getD n false=false:=by rcases Nat.lt_or_ge n ops.size with h | h <;> simp [h]
   simp only [cntD,this,ih]; rfl
 refine wp_region_any hf (go _ _ 0 _ _ _ (by simp) (fun k hk=>by rw [Nat.zero_testBit]; simp [hk]) (c0 _) (by rw [← d1]; exact h) ?_)
 obtain ⟨S,ρ,R⟩:=R
 obtain ⟨H',hE⟩:=R.heap.same (w' := { w with drawn:=w.drawn+1 }) (S' := S) ⟨rfl,rfl,rfl,Nat.le_refl _,fun _ _=>rfl⟩ (fun _ h=>h) (fun _ h=>.inl h)
 exact ⟨S,ρ,H',R.fr.ext hE,R.size,R.dfr,R.sin,R.ext.trans hE⟩
end
structure DrawnP (P:Program) (N:Nat) (ops:Array Oper) (hid:Hid1) (l:List AOper):Prop where
 hlen:hid.length=l.length
 len:l.length=ops.size
 mt:∀ (i:Nat) (o:Oper),ops[i]?=some o→MtO P N ops o (l.getD i dflO)
 edge:∀ (i:Nat) (o:Oper),ops[i]?=some o→∀ k∈esO o,k<i
 uniq:∀ i j t,i<ops.size→j<ops.size→(l.getD i dflO).dst=some t→(l.getD j dflO).dst=some t→i=j
 slot:∀ i k t,i<ops.size→k<ops.size→k≠i→t∈(l.getD i dflO).rd→(l.getD k dflO).dst=some t→(k<i∧((ancGo ops.toList []).getD i 0).testBit k=true)∨(i<k∧((ancGo ops.toList []).getD k 0).testBit i=true)
 tot:∀ i k,i<ops.size→k<i→(l.getD i dflO).op.isH=true→(l.getD k dflO).op.isH=true→((ancGo ops.toList []).getD i 0).testBit k=true∨(fxL ops l i=true∧fxL ops l k=true)
 first:∀ i k,i<ops.size→k<ops.size→(l.getD i dflO).op.isH=true→fxL ops l i=false→fxL ops l k=true→k<i∧((ancGo ops.toList []).getD i 0).testBit k=true
 bar:∀ i,i<ops.size→(hid.getD i (0,false)).2=true→(∀ k,k<i→hfL l k=false→((ancGo ops.toList []).getD i 0).testBit k=true)∧(∀ k,i<k→k<ops.size→hfL l k=false→((ancGo ops.toList []).getD k 0).testBit i=true)
 pos:∀ i,i<ops.size→(l.getD i dflO).op.isH=false→(hid.getD i (0,false)).1≤i
 posR:∀ i k,i<ops.size→k<ops.size→(l.getD i dflO).op.isH=false→hfL l i=false→(l.getD k dflO).op.isH=true→k<(hid.getD k (0,false)).1→(hid.getD i (0,false)).1≤k→(hid.getD i (0,false)).1=0∨(i<k∧((ancGo ops.toList []).getD k 0).testBit i=true)
 posA:∀ i k,i<ops.size→(l.getD i dflO).op.isH=false→k<(hid.getD i (0,false)).1→(l.getD k dflO).op.isH=true→((ancGo ops.toList []).getD i 0).testBit k=true
 posB:∀ i k,i<ops.size→(l.getD i dflO).op.isH=false→hfL l i=false→k<i→(hid.getD i (0,false)).1≤k→(l.getD k dflO).op.isH=true→(hid.getD k (0,false)).2=false
section
variable {P : Program} {N : Nat}
theorem drawnP_of {ops:Array Oper} {hid:Hid1} {l:List AOper} (hm:All2 (MtO P N ops) ops.toList l) (hd:drawB ops hid l=true):DrawnP P N ops hid l:=by
 simp only [drawB,Bool.and_eq_true,beq_iff_eq] at hd
 obtain ⟨⟨⟨⟨⟨⟨⟨⟨⟨d1,d2⟩,d3⟩,d4⟩,d5⟩,d6⟩,d9⟩,d7⟩,dR⟩,d8⟩:=hd
 have hlen:hid.length=l.length:=by rw [d1,d2]
 have lg:∀ {i:Nat},i<ops.size→l[i]?=some (l.getD i dflO):=fun {i} hi=>by rw [List.getD_eq_getElem?_getD,List.getElem?_eq_getElem (by omega)]; rfl
 obtain ⟨m1,m2⟩:=all2_get hm
 refine ⟨hlen,d1,fun i o ho=>?_,fun i o ho k hk=>?_,fun i j t hi hj h1 h2=>?_,fun i k t hi hk hne ht hkd=>?_,fun i k hi hk h1 h2=>?_,fun i k hi hk h1 h2 h3=>?_,fun i hi hb=>?_,fun i hi hHi=>?_,fun i k hi hk hHi hfi hH hr hp=>?_,fun i k hi hHi hk hH=>?_,fun i k hi hHi hfi hki hk hH=>?_⟩
 ·have hi:=(Array.getElem?_eq_some_iff.1 ho).1
  exact m2 i o _ (by rw [Array.getElem?_toList]; exact ho) (lg hi)
 ·have hi:=(Array.getElem?_eq_some_iff.1 ho).1
  have:=ltAll_ok d3 i hi
  rw [ho] at this
  simp only [Option.map_some,Option.getD_some,List.all_eq_true,decide_eq_true_eq] at this
  exact this k hk
 ·have:=ltAll_ok (ltAll_ok d4 i hi) j hj
  simp only [lg hi,lg hj,Option.bind_some,h1,h2,Option.isNone_some,Bool.or_false,bne_self_eq_false,beq_iff_eq] at this
  exact this
 ·have h5:=ltAll_ok d5 i hi
  rw [lg hi] at h5
  simp only [Option.map_some,Option.getD_some,List.all_eq_true] at h5
  have:=ltAll_ok (h5 t ht) k hk
  simp only [lg hk,Option.bind_some,hkd,bne_self_eq_false,Bool.or_false,Bool.or_eq_true,beq_iff_eq,hne,false_or] at this
  split at this
  ·rename_i hlt; exact .inl ⟨hlt,this⟩
  ·exact .inr ⟨by omega,this⟩
 ·have:=ltAll_ok (ltAll_ok d6 i hi) k hk
  simp only [lg hi,lg (show k<ops.size by omega),Option.map_some,Option.getD_some,h1,h2,Bool.and_self,Bool.not_true,Bool.false_or,Bool.or_eq_true,Bool.and_eq_true] at this
  exact this
 ·have:=ltAll_ok d9 i hi
  simp only [lg hi,Option.map_some,Option.getD_some,h1,h2,Bool.not_true,Bool.false_or] at this
  have:=ltAll_ok this k hk
  simp only [h3,Bool.not_true,Bool.false_or,Bool.and_eq_true,decide_eq_true_eq] at this
  exact this
 ·have:=ltAll_ok d7 i hi
  simp only [hb,Bool.not_true,Bool.false_or,Bool.and_eq_true] at this
  refine ⟨fun k hk hfk=>?_,fun k hk hkn hfk=>?_⟩
  ·have h7:=ltAll_ok this.1 k hk
   rw [hfk,Bool.false_or] at h7
   exact h7
  have h7:=ltAll_ok this.2 k hkn
  simp only [hfk,Bool.false_or,Bool.or_eq_true,decide_eq_true_eq] at h7
  exact h7.resolve_left (by omega)
 ·have:=ltAll_ok d8 i hi
  simp only [lg hi,Option.map_some,Option.getD_some,hHi,Bool.false_or,Bool.and_eq_true,decide_eq_true_eq] at this
  exact this.1.1
 ·have:=ltAll_ok dR i hi
  simp only [lg hi,Option.map_some,Option.getD_some,hHi,hfi,Bool.false_or] at this
  have:=ltAll_ok this k hk
  simp only [lg hk,Option.map_some,Option.getD_some,hH,Bool.not_true,Bool.false_or,Bool.or_eq_true,Bool.and_eq_true,decide_eq_true_eq] at this
  rcases this with ((h | h) | h) | h
  ·omega
  ·omega
  ·exact .inl h
  ·exact .inr h
 ·have:=ltAll_ok d8 i hi
  simp only [lg hi,Option.map_some,Option.getD_some,hHi,Bool.false_or,Bool.and_eq_true,decide_eq_true_eq] at this
  have h8:=ltAll_ok this.1.2 k hk
  have hp:=this.1.1
  simp only [lg (show k<ops.size by omega),Option.map_some,Option.getD_some,hH,Bool.not_true,Bool.false_or] at h8
  exact h8
 ·have:=ltAll_ok d8 i hi
  simp only [lg hi,Option.map_some,Option.getD_some,hHi,Bool.and_eq_true,decide_eq_true_eq,hfi,Bool.false_or] at this
  have h8:=ltAll_ok this.2 k hki
  simp only [lg (show k<ops.size by omega),Option.map_some,Option.getD_some,hH,Bool.not_true,Bool.or_false,Bool.or_eq_true,decide_eq_true_eq,Bool.not_eq_true'] at h8
  exact h8.resolve_left (by omega)
end
def boxO (d:Option Nat):AOper:=⟨d,.box 0 1 (.c (.bool true)),none⟩
def skO (d:Option Nat):AOper:=⟨d,.mv (.c .top),none⟩
def skB (sk:List Nat) (o:AOper):Bool:=o.op.isH || o.rd.any fun t=>sk.contains t
def skL:List Nat→List AOper→List AOper
 | _,[]=>[]
 | sk,o :: r=>if skB sk o=true then skO o.dst :: skL (o.dst.toList ++ sk) r else o :: skL sk r
def skH:List Nat→Hid1→List AOper→Hid1
 | _,hs,[]=>hs
 | sk,h :: hs,o :: r=>if skB sk o=true then (0,false) :: skH (o.dst.toList ++ sk) hs r else h :: skH sk hs r
 | _,[],_ :: _=>[]
theorem skL_len:∀ (r:List AOper) (sk:List Nat),(skL sk r).length=r.length:=by
 intro r
 induction r with
 | nil=>intro sk; rfl
 | cons o r ih=>intro sk; simp only [skL]; split <;> simp [ih]
theorem skH_len:∀ (r:List AOper) (hs:Hid1) (sk:List Nat),hs.length=r.length→(skH sk hs r).length=r.length:=by
 intro r
 induction r with
 | nil=>intro hs sk h; cases hs <;> exact h
 | cons o r ih =>
  intro hs sk h
  cases hs with
  | nil=>simp at h
  | cons h0 hs=>simp only [skH]; split <;> simp [ih hs _ (by simpa using h)]
theorem skL_spec:∀ (r:List AOper) (hs:Hid1) (sk:List Nat),hs.length=r.length→∃ f:Nat→Bool,∀ j,j<r.length →
  (skL sk r).getD j dflO=(if f j=true then skO (r.getD j dflO).dst else r.getD j dflO)∧(skH sk hs r).getD j (0,false)=(if f j=true then (0,false) else hs.getD j (0,false)) ∧
  (f j=true→(r.getD j dflO).op.isH=true∨∃ t,t∈(r.getD j dflO).rd∧(t∈sk∨∃ j',j' < j∧f j' = true∧(r.getD j' dflO).dst=some t))∧(f j=false→(r.getD j dflO).op.isH=false):=by
 intro r
 induction r with
 | nil=>intro hs sk _; exact ⟨fun _=>false,fun j hj=>by simp at hj⟩
 | cons o r ih =>
  intro hs sk hl
  cases hs with
  | nil=>simp at hl
  | cons h hs =>
   cases hb:skB sk o with
   | true =>
    obtain ⟨f,hf⟩:=ih hs (o.dst.toList ++ sk) (by simpa using hl)
    refine ⟨fun j=>match j with | 0=>true | j+1=>f j,fun j hj=>?_⟩
    cases j with
    | zero =>
     refine ⟨by simp [skL,hb],by simp [skH,hb],fun _=>?_,fun h=>by simp at h⟩
     simp only [List.getD_cons_zero]
     simp only [skB,Bool.or_eq_true,List.any_eq_true,List.contains_iff_mem] at hb
     rcases hb with hb | ⟨t,h1,h2⟩
     ·exact .inl hb
     ·exact .inr ⟨t,h1,.inl h2⟩
    | succ j =>
     obtain ⟨e1,e2,e3,e4⟩:=hf j (by simpa using hj)
     refine ⟨by simpa [skL,hb] using e1,by simpa [skH,hb] using e2,fun hfj=>?_,fun hfj=>by simpa using e4 hfj⟩
     rcases e3 hfj with h1 | ⟨t,h1,h2⟩
     ·exact .inl (by simpa using h1)
     ·refine .inr ⟨t,by simpa using h1,?_⟩
      rcases h2 with h2 | ⟨j',h2,h3,h4⟩
      ·rcases List.mem_append.1 h2 with h2 | h2
       ·exact .inr ⟨0,by omega,rfl,by simpa using h2⟩
       ·exact .inl h2
      ·exact .inr ⟨j' + 1,by omega,h3,by simpa using h4⟩
   | false =>
    obtain ⟨f,hf⟩:=ih hs sk (by simpa using hl)
    refine ⟨fun j=>match j with | 0=>false | j+1=>f j,fun j hj=>?_⟩
    cases j with
    | zero =>
     refine ⟨by simp [skL,hb],by simp [skH,hb],fun h=>by simp at h,fun _=>?_⟩
     simp only [skB,Bool.or_eq_false_iff] at hb
     simpa using hb.1
    | succ j =>
     obtain ⟨e1,e2,e3,e4⟩:=hf j (by simpa using hj)
     refine ⟨by simpa [skL,hb] using e1,by simpa [skH,hb] using e2,fun hfj=>?_,fun hfj=>by simpa using e4 hfj⟩
     rcases e3 hfj with h1 | ⟨t,h1,h2⟩
     ·exact .inl (by simpa using h1)
     ·refine .inr ⟨t,by simpa using h1,?_⟩
      rcases h2 with h2 | ⟨j',h2,h3,h4⟩
      ·exact .inl h2
      ·exact .inr ⟨j' + 1,by omega,h3,by simpa using h4⟩
def arunDX (Φ:Phi) (ΦX:PhX) (T:AV→St→List Nat→Prop):Hid1→List AOper→List Nat→St→Prop
 | h :: hs,o :: r,lens,s=>o.grd=none∧((∃ x ids p,thr ΦX s o.op=some (x,ids,p)∧p∧T x ⟨[],s.hp⟩ ids∧o.op.isH=true∧arunD Φ (h :: skH o.dst.toList hs r) (boxO o.dst :: skL o.dst.toList r) lens (fun _=>True) s) ∨
   aq (exD Φ h o (lens ++ [s.hp.length]) s) s o.dst (arunDX Φ ΦX T hs r (lens ++ [s.hp.length])))
 | _,_,_,_=>False
def arunD3 (Φ:Phi) (ΦX:PhX) (T:AV→St→List Nat→Prop):Hid1→List AOper→List Nat→(S2→Prop)→S2→Prop
 | _,[],_,K,s=>K s
 | h :: hs,⟨d,op,none⟩ :: r,lens,K,s=>if op.isThr=true then (if (thr ΦX (toS s) op).isSome=true then (op.isH=true∧tq3 (thr ΦX (toS s) op) T ⟨[],s.hp⟩∧arunD2 Φ (h :: skH d.toList hs r) (boxO d :: skL d.toList r) lens (fun _=>True) s)
   else aq2 (exD Φ h ⟨d,op,none⟩ (lens ++ [s.hp.length]) (toS s)) s d (arunD3 Φ ΦX T hs r (lens ++ [s.hp.length]) K)) else aq2 (exD Φ h ⟨d,op,none⟩ (lens ++ [s.hp.length]) (toS s)) s d (arunD3 Φ ΦX T hs r (lens ++ [s.hp.length]) K)
 | h :: hs,⟨d,op,some g⟩ :: r,lens,K,s=>arunD2 Φ (h :: hs) (⟨d,op,some g⟩ :: r) lens K s
 | [],_ :: _,_,_,_=>False
def plainL (l:List AOper):Bool:=l.all fun o=>o.grd.isNone && !o.isNew
section
variable {P : Program} {Φ : Phi} {ΦX : PhX} {F : Nat → Prop} {w0 w : World} {S S0 : Nat → Prop} {ρ ρ0 : Rho} {N m : Nat} {ds : List Deferred} {a : Act} {T : AV → St → List Nat → Prop} {s0 : St}
theorem thr_congr {s s' : St} {op:AOp} (hp:s.hp=s'.hp) (h:∀ t∈op.rd,lk s.fr t=lk s'.fr t):thr ΦX s op=thr ΦX s' op:=by
 cases op <;> simp only [thr]
 case call f «as»=>rw [hp,evs_congr (l:=«as») h]
 case pan x=>rw [ev_congr (x:=x) h]
theorem arunD3_or:∀ (l:List AOper) (hid:Hid1) (lens:List Nat) (K:S2→Prop) (s:St) (s2:S2),R2 s s2→arunD3 Φ ΦX T hid l lens K s2→arunD2 Φ hid l lens K s2∨arunDX Φ ΦX T hid l lens s:=by
 intro l
 induction l with
 | nil=>intro hid lens K s s2 _ h; left; cases hid <;> exact h
 | cons o r ih =>
  intro hid lens K s s2 hR h
  obtain ⟨d,op,g⟩:=o
  cases hid with
  | nil=>cases g <;> exact h.elim
  | cons hd hs =>
   cases g with
   | some g=>exact .inl h
   | none =>
    have go:aq2 (exD Φ hd ⟨d,op,none⟩ (lens ++ [s2.hp.length]) (toS s2)) s2 d (arunD3 Φ ΦX T hs r (lens ++ [s2.hp.length]) K)→arunD2 Φ (hd :: hs) (⟨d,op,none⟩ :: r) lens K s2∨arunDX Φ ΦX T (hd :: hs) (⟨d,op,none⟩ :: r) lens s:=by
     intro h
     cases he:exD Φ hd ⟨d,op,none⟩ (lens ++ [s2.hp.length]) (toS s2) with
     | none=>rw [he] at h; exact h.elim
     | some r0 =>
      obtain ⟨x,hp,p⟩:=r0
      rw [he] at h
      rcases ih hs _ K _ _ (hR.put d x hp) h.2 with h1 | h1
      ·left
       simp only [arunD2]
       rw [he]
       exact ⟨h.1,h1⟩
      ·right
       refine ⟨rfl,.inr ?_⟩
       rw [exD_R2 hR,show s.hp=s2.hp from hR.1,he]
       exact ⟨h.1,h1⟩
    simp only [arunD3] at h
    split at h
    ·split at h
     ·right
      obtain ⟨hthr,h1,h2⟩:=h
      unfold tq3 at h1
      split at h1
      ·rename_i x ids p hc
       rw [← thr_congr (s:=s) hR.1 (fun t _=>hR.lk t)] at hc
       refine ⟨rfl,.inl ⟨x,ids,p,hc,h1.1,by rw [show s.hp=s2.hp from hR.1]; exact h1.2,hthr,?_⟩⟩
       exact arunD2_ok _ _ _ (fun _=>True) (fun _=>True) (fun _ _ _ _=>trivial) s s2 hR h2
      ·exact h1.elim
     ·exact go h
    ·exact go h
theorem stI_congr {hid hid' : Hid1} {l l' : List AOper}:∀ i,(∀ k,k<i→hid.getD k (0,false)=hid'.getD k (0,false)∧l.getD k dflO=l'.getD k dflO)→stI Φ hid l s0 i=stI Φ hid' l' s0 i:=by
 intro i
 induction i with
 | zero=>intro _; rfl
 | succ i ih =>
  intro h
  have h1:=ih fun k hk=>h k (by omega)
  obtain ⟨h2,h3⟩:=h i (by omega)
  simp only [stI,h1,h2,h3]
def cutO (l:List AOper) (i0:Nat):List AOper:=l.take i0 ++ boxO (l.getD i0 dflO).dst :: skL (l.getD i0 dflO).dst.toList (l.drop (i0+1))
def cutH (hid:Hid1) (l:List AOper) (i0:Nat):Hid1:=hid.take i0 ++ hid.getD i0 (0,false) :: skH (l.getD i0 dflO).dst.toList (hid.drop (i0+1)) (l.drop (i0+1))
def resOk (Φ:Phi) (hid:Hid1) (l:List AOper) (s0:St) (i:Nat):Prop:=∃ x hp p,resD Φ (hid.getD i (0,false)) (l.getD i dflO) ((stI Φ hid l s0 i).2 ++ [(stI Φ hid l s0 i).1.hp.length]) (stI Φ hid l s0 i).1=some (x,hp,p)∧p
theorem cutO_len {l:List AOper} {i0:Nat} (h:i0<l.length):(cutO l i0).length=l.length:=by
 simp only [cutO,List.length_append,List.length_take,List.length_cons,skL_len,List.length_drop]; omega
theorem cutH_len {hid:Hid1} {l:List AOper} {i0:Nat} (hl:hid.length=l.length) (h:i0<l.length):(cutH hid l i0).length=l.length:=by
 simp only [cutH,List.length_append,List.length_take,List.length_cons]
 rw [skH_len _ _ _ (by simp [hl])]
 simp only [List.length_drop]; omega
theorem cutO_lt {l:List AOper} {i0 k:Nat} (h:i0<l.length) (hk:k<i0):(cutO l i0).getD k dflO=l.getD k dflO:=by
 rw [List.getD_eq_getElem?_getD,cutO,List.getElem?_append_left (by rw [List.length_take]; omega),List.getElem?_take,if_pos hk,← List.getD_eq_getElem?_getD]
theorem cutH_lt {hid:Hid1} {l:List AOper} {i0 k:Nat} (h:i0<hid.length) (hk:k<i0):(cutH hid l i0).getD k (0,false)=hid.getD k (0,false):=by
 rw [List.getD_eq_getElem?_getD,cutH,List.getElem?_append_left (by rw [List.length_take]; omega),List.getElem?_take,if_pos hk,← List.getD_eq_getElem?_getD]
theorem cutO_at {l:List AOper} {i0:Nat} (h:i0<l.length):(cutO l i0).getD i0 dflO=boxO (l.getD i0 dflO).dst:=by
 rw [List.getD_eq_getElem?_getD,cutO,List.getElem?_append_right (by rw [List.length_take]; omega),List.length_take,Nat.min_eq_left (by omega),Nat.sub_self]; rfl
theorem cutH_at {hid:Hid1} {l:List AOper} {i0:Nat} (h:i0<hid.length):(cutH hid l i0).getD i0 (0,false)=hid.getD i0 (0,false):=by
 rw [List.getD_eq_getElem?_getD (l:=cutH hid l i0),cutH,List.getElem?_append_right (by rw [List.length_take]; omega),List.length_take,Nat.min_eq_left (by omega),Nat.sub_self]; rfl
theorem cutO_gt {l:List AOper} {i0 j:Nat} (h:i0<l.length):(cutO l i0).getD (i0+1+j) dflO=(skL (l.getD i0 dflO).dst.toList (l.drop (i0+1))).getD j dflO:=by
 rw [List.getD_eq_getElem?_getD,cutO,List.getElem?_append_right (by rw [List.length_take]; omega),List.length_take,Nat.min_eq_left (by omega),show i0+1+j - i0=j+1 by omega,List.getElem?_cons_succ,← List.getD_eq_getElem?_getD]
theorem cutH_gt {hid:Hid1} {l:List AOper} {i0 j:Nat} (h:i0<hid.length):(cutH hid l i0).getD (i0+1+j) (0,false)=(skH (l.getD i0 dflO).dst.toList (hid.drop (i0+1)) (l.drop (i0+1))).getD j (0,false):=by
 rw [List.getD_eq_getElem?_getD,cutH,List.getElem?_append_right (by rw [List.length_take]; omega),List.length_take,Nat.min_eq_left (by omega),show i0+1+j - i0=j+1 by omega,List.getElem?_cons_succ,← List.getD_eq_getElem?_getD]
theorem arunDX_run {hid:Hid1} {l:List AOper} (hl:hid.length=l.length):∀ (d i:Nat),i+d=l.length→arunDX Φ ΦX T (hid.drop i) (l.drop i) (stI Φ hid l s0 i).2 (stI Φ hid l s0 i).1→(∀ k,k<i→resOk Φ hid l s0 k) →
  ∃ i0,i0<l.length∧(∀ k,k<l.length→resOk Φ (cutH hid l i0) (cutO l i0) s0 k)∧(l.getD i0 dflO).op.isH=true∧∃ x ids p,thr ΦX (stI Φ (cutH hid l i0) (cutO l i0) s0 i0).1 (l.getD i0 dflO).op=some (x,ids,p)∧p∧T x ⟨[],(stI Φ (cutH hid l i0) (cutO l i0) s0 i0).1.hp⟩ ids:=by
 intro d
 induction d with
 | zero =>
  intro i hi h
  have:i=l.length:=by omega
  subst this
  rw [List.drop_length] at h
  cases hh:hid.drop l.length <;> (rw [hh] at h; exact h.elim)
 | succ d ih =>
  intro i hi h hpre
  have hil:i<l.length:=by omega
  have h0:=h
  rw [List.drop_eq_getElem_cons (by omega:i<hid.length),List.drop_eq_getElem_cons hil] at h
  have e1:hid.getD i (0,false)=hid[i]'(by omega):=by rw [List.getD_eq_getElem?_getD,List.getElem?_eq_getElem (by omega)]; rfl
  have e2:l.getD i dflO=l[i]:=by rw [List.getD_eq_getElem?_getD,List.getElem?_eq_getElem hil]; rfl
  rw [← e1,← e2] at h
  obtain ⟨hg,h⟩:=h
  have hcong:stI Φ hid l s0 i=stI Φ (cutH hid l i) (cutO l i) s0 i:=stI_congr i fun k hk=>⟨(cutH_lt (by omega) hk).symm,(cutO_lt hil hk).symm⟩
  rcases h with ⟨x,ids,p,h1,h2,h3,h4,h5⟩ | h
  ·refine ⟨i,hil,fun k hk=>?_,h4,x,ids,p,by rw [← hcong]; exact h1,h2,by rw [← hcong]; exact h3⟩
   have hdr:(cutO l i).drop i=boxO (l.getD i dflO).dst :: skL (l.getD i dflO).dst.toList (l.drop (i+1)):=by
    rw [cutO,List.drop_append_of_le_length (by rw [List.length_take]; omega),List.drop_of_length_le (by rw [List.length_take]; omega),List.nil_append]
   have hdh:(cutH hid l i).drop i=hid.getD i (0,false) :: skH (l.getD i dflO).dst.toList (hid.drop (i+1)) (l.drop (i+1)):=by
    rw [cutH,List.drop_append_of_le_length (by rw [List.length_take]; omega),List.drop_of_length_le (by rw [List.length_take]; omega),List.nil_append]
   have hlen:=cutO_len hil
   have hlenh:=cutH_len hl hil
   obtain ⟨r1,_⟩:=arunD_run Φ (cutH hid l i) (cutO l i) s0 (K:=fun _=>True) (by rw [hlenh,hlen]) (d+1) i (by omega) (by rw [hdr,hdh,← hcong]; exact h5)
   rcases Nat.lt_or_ge k i with hki | hki
   ·obtain ⟨x',hp',p',q1,q2⟩:=hpre k hki
    refine ⟨x',hp',p',?_,q2⟩
    rw [cutH_lt (by omega) hki,cutO_lt hil hki,← stI_congr (hid:=hid) (l:=l) k fun k' hk' => ⟨(cutH_lt (by omega) (by omega)).symm,(cutO_lt hil (by omega)).symm⟩]
    exact q1
   ·exact r1 k hki (by omega)
  ·unfold aq at h
   split at h
   ·rename_i x hp p he
    have hres:resD Φ (hid.getD i (0,false)) (l.getD i dflO) ((stI Φ hid l s0 i).2 ++ [(stI Φ hid l s0 i).1.hp.length]) (stI Φ hid l s0 i).1=some (x,hp,p):=by
     unfold resD; rw [hg]; exact he
    have hpin:pinO (l.getD i dflO) (stI Φ hid l s0 i).1=(stI Φ hid l s0 i).1:=by unfold pinO; rw [hg]
    have e3:stI Φ hid l s0 (i+1)=((stI Φ hid l s0 i).1.put (l.getD i dflO).dst x hp,(stI Φ hid l s0 i).2 ++ [(stI Φ hid l s0 i).1.hp.length]):=by
     rw [← hpin]
     simp only [stI,hres,hpin]
    refine ih (i+1) (by omega) (by rw [e3]; exact h.2) fun k hk=>?_
    rcases Nat.lt_or_ge k i with hki | hki
    ·exact hpre k hki
    ·have:k=i:=by omega
     subst this; exact ⟨x,hp,p,hres,h.1⟩
   ·exact h.elim
theorem ancGo_congr:∀ (r r' : List Oper) (acc:List Nat),r.map esO=r'.map esO→ancGo r acc=ancGo r' acc:=by
 intro r
 induction r with
 | nil=>intro r' acc h; cases r' with | nil=>rfl | cons=>simp at h
 | cons o r ih =>
  intro r' acc h
  cases r' with
  | nil=>simp at h
  | cons o' r' =>
   simp only [List.map_cons,List.cons.injEq] at h
   simp only [ancGo,h.1]
   exact ih r' _ h.2
theorem adrawX_ok (hΦ:PhiOk P Φ) (hX:PhXOk P ΦX) {ops:Array Oper} {hid:Hid1} {l:List AOper} {id:Nat} {Q:Exit→Act→World→Prop} (hm:All2 (MtO P N ops) ops.toList l) (hd:drawOk P ops hid l) (hpl:plainL l=true) (h:arunDX Φ ΦX T hid l [] s0)
  (R:Rel F w0 S0 ρ0 N ds s0 a w) (hT:∀ x hp ids v a w,T x hp ids→RelX F w0 S0 ρ0 ds x hp ids v a w→Q (.panic [{ v,recovered:=false }]) a w):(Code.region id ops true).wp P Q a w:=by
 have dp:=drawnP_of hm hd.2
 obtain ⟨i0,hi0,hres,hthr,x,ids,p,ht1,ht2,ht3⟩:=arunDX_run (s0:=s0) dp.hlen l.length 0 (by omega) h (fun k hk=>by omega)
 have hn:=dp.len
 obtain ⟨f,hf⟩:=skL_spec (l.drop (i0+1)) (hid.drop (i0+1)) (l.getD i0 dflO).dst.toList (by simp [dp.hlen])
 generalize hl' : cutO l i0=l' at *
 generalize hh' : cutH hid l i0=hid' at *
 let Fk:Nat→Bool:=fun k=>decide (i0<k) && f (k - i0 - 1)
 have hF:∀ k,Fk k=true→i0<k∧f (k - i0 - 1)=true:=fun k h=>by simpa [Fk] using h
 have plain:∀ k,k<l.length→(l.getD k dflO).grd=none∧(l.getD k dflO).isNew=false:=by
  intro k hk
  unfold plainL at hpl
  rw [List.all_eq_true] at hpl
  have:=hpl (l.getD k dflO) (by rw [List.getD_eq_getElem?_getD,List.getElem?_eq_getElem hk]; exact List.getElem_mem hk)
  simpa using this
 have drp:∀ j,(l.drop (i0+1)).getD j dflO=l.getD (i0+1+j) dflO:=fun j=>by simp [List.getD_eq_getElem?_getD,List.getElem?_drop]
 have drph:∀ j,(hid.drop (i0+1)).getD j (0,false)=hid.getD (i0+1+j) (0,false):=fun j=>by simp [List.getD_eq_getElem?_getD,List.getElem?_drop]
 have at' : ∀ k,k<l.length→(l'.getD k dflO=if k=i0 then boxO (l.getD k dflO).dst else if Fk k=true then skO (l.getD k dflO).dst else l.getD k dflO)∧(hid'.getD k (0,false)=if Fk k=true then (0,false) else hid.getD k (0,false)):=by
  intro k hk
  subst hl' hh'
  have hih:i0<hid.length:=by rw [dp.hlen]; exact hi0
  rcases Nat.lt_trichotomy k i0 with h1 | h1 | h1
  ·rw [cutO_lt hi0 h1,cutH_lt hih h1,if_neg (by omega),if_neg (fun e=>by have:=(hF k e).1; omega),if_neg (fun e=>by have:=(hF k e).1; omega)]
   exact ⟨rfl,rfl⟩
  ·subst h1
   rw [cutO_at hi0,cutH_at hih,if_pos rfl,if_neg (fun e=>by have:=(hF k e).1; omega)]
   exact ⟨rfl,rfl⟩
  ·obtain ⟨j,rfl⟩:∃ j,k=i0+1+j:=⟨k - i0 - 1,by omega⟩
   obtain ⟨e1,e2,_,_⟩:=hf j (by rw [List.length_drop]; omega)
   have hFk:Fk (i0+1+j)=f j:=by simp only [Fk]; rw [decide_eq_true (by omega),Bool.true_and]; congr 1; omega
   rw [cutO_gt hi0,cutH_gt hih,e1,e2,drp,drph,hFk,if_neg (show ¬ (i0+1+j=i0) by omega)]
   exact ⟨rfl,rfl⟩
 have isH' : ∀ k,k<l.length→(l'.getD k dflO).op.isH=true→(l.getD k dflO).op.isH=true∧Fk k=false:=by
  intro k hk hH
  rw [(at' k hk).1] at hH
  split at hH
  ·rename_i e; subst e
   refine ⟨hthr,?_⟩
   ·cases hFk:Fk k with
    | false=>rfl
    | true=>have:=(hF k hFk).1; omega
  ·split at hH
   ·cases hH
   ·rename_i e; exact ⟨hH,by simpa using e⟩
 have hfL' : ∀ k,k<l.length→hfL l' k=false→hfL l k=false∧Fk k=false:=by
  intro k hk hh
  unfold hfL at hh ⊢
  have hFk:Fk k=false:=by
   cases hFk:Fk k with
   | false=>rfl
   | true =>
    have h1:=(hF k hFk).1
    rw [(at' k hk).1,if_neg (by omega),if_pos hFk] at hh
    cases hh
  refine ⟨?_,hFk⟩
  by_cases e:k=i0
  ·subst e
   cases hop:(l.getD k dflO).op <;> rw [hop] at hthr <;> first | rfl | cases hthr
  ·rw [(at' k hk).1,if_neg e,if_neg (by rw [hFk]; simp)] at hh
   exact hh
 let chg:Nat→Oper→Oper:=fun k o=>if k=i0 then { o with op:=.box 0 (.const (.bool true)),guard:=none } else if Fk k=true then { o with op:=.move (.const (.tuple #[])),guard:=none } else o
 have chg_es:∀ k o,esO (chg k o)=esO o:=by
  intro k o
  simp only [chg]
  split
  ·rfl
  ·split <;> rfl
 have chg_dst:∀ k o,(chg k o).dst=o.dst:=by
  intro k o
  simp only [chg]
  split
  ·rfl
  ·split <;> rfl
 let ops' : Array Oper:=ops.mapIdx chg
 have sz' : ops'.size=ops.size:=by simp [ops']
 have get' : ∀ k,ops'[k]?=(ops[k]?).map (chg k):=fun k=>by simp [ops']
 have anc' : ancGo ops'.toList []=ancGo ops.toList []:=by
  refine ancGo_congr _ _ _ (List.ext_getElem? fun k=>?_)
  rw [List.getElem?_map,List.getElem?_map,Array.getElem?_toList,Array.getElem?_toList,get']
  cases ops[k]? with
  | none=>rfl
  | some o=>simp [chg_es]
 have dst' : ∀ k,k<l.length→(l'.getD k dflO).dst=(l.getD k dflO).dst:=by
  intro k hk
  rw [(at' k hk).1]
  split
  ·rfl
  ·split <;> rfl
 have fxF:∀ k,fxL ops' l' k=false∧fxL ops l k=false:=by
  intro k
  have one:∀ (l:List AOper),(k<l.length→(l.getD k dflO).isNew=false)→(l.getD k dflO).isNew=false:=by
   intro l h
   rcases Nat.lt_or_ge k l.length with h1 | h1
   ·exact h h1
   ·rw [List.getD_eq_getElem?_getD,List.getElem?_eq_none h1]; rfl
  unfold fxL
  have hll:l'.length=l.length:=by rw [← hl']; exact cutO_len hi0
  rw [one l' (fun hk=>by
   rw [hll] at hk
   rw [(at' k hk).1]
   split
   ·rfl
   ·split
    ·rfl
    ·exact (plain k hk).2),one l fun hk=>(plain k hk).2]
  exact ⟨rfl,rfl⟩
 have rd' : ∀ k,k<l.length→∀ t∈(l'.getD k dflO).rd,k≠i0∧Fk k=false∧t∈(l.getD k dflO).rd:=by
  intro k hk t ht
  rw [(at' k hk).1] at ht
  split at ht
  ·simp [boxO,AOper.rd,AOp.rd,Opd.rd] at ht
  ·split at ht
   ·simp [skO,AOper.rd,AOp.rd,Opd.rd] at ht
   ·rename_i h1 h2; exact ⟨h1,by simpa using h2,ht⟩
 have hhid:∀ k,k<l.length→Fk k=false→hid'.getD k (0,false)=hid.getD k (0,false):=fun k hk hFk=>by rw [(at' k hk).2,if_neg (by rw [hFk]; simp)]
 have d:Drawn P Φ N ops' hid' l' s0:=by
  have ln:l.length=ops.size:=hn
  refine ⟨by rw [sz',← hn,← hl']; exact cutO_len hi0,fun i o' ho' => ?_,fun i o' ho' k hk=>?_,fun i j t hi hj h1 h2=>?_,fun i k t hi hk hne ht hkd=>?_,fun i k hi hk h1 h2=>?_,fun i k hi hk h1 h2 h3=>?_,fun i hi hb=>?_,fun i hi hHi=>?_,fun i k hi hk hHi hfi hH hr hp=>?_,fun i k hi hHi hk hH=>?_,fun i k hi hHi hfi hki hk hH=>?_,fun i hi=>?_⟩
  ·rw [get'] at ho'
   obtain ⟨o,ho,rfl⟩:=Option.map_eq_some_iff.1 ho'
   have hi:=(Array.getElem?_eq_some_iff.1 ho).1
   obtain ⟨m1,m2,m3,m4⟩:=dp.mt i o ho
   refine ⟨by rw [chg_dst,dst' i (by omega)]; exact m1,?_,by rw [chg_dst]; exact m3,?_⟩
   ·rw [(at' i (by omega)).1]
    simp only [chg]
    split
    ·exact ⟨.const (.bool true),rfl,rfl⟩
    ·split
     ·exact ⟨.const (.tuple #[]),.inl rfl,rfl⟩
     ·exact m2
   ·have hg:=(plain i (by omega)).1
    rw [hg] at m4
    have hgo:o.guard=none:=by
     cases hgo:o.guard with
     | none=>rfl
     | some g=>rw [hgo] at m4; exact m4.elim
    have h1:(chg i o).guard=none:=by
     simp only [chg]
     split
     ·rfl
     ·split
      ·rfl
      ·exact hgo
    have h2:(l'.getD i dflO).grd=none:=by
     rw [(at' i (by omega)).1]
     split
     ·rfl
     ·split
      ·rfl
      ·exact hg
    rw [h1,h2]; trivial
  ·rw [get'] at ho'
   obtain ⟨o,ho,rfl⟩:=Option.map_eq_some_iff.1 ho'
   rw [chg_es] at hk
   exact dp.edge i o ho k hk
  ·rw [sz'] at hi hj
   rw [dst' i (by omega)] at h1
   rw [dst' j (by omega)] at h2
   exact dp.uniq i j t hi hj h1 h2
  ·rw [sz'] at hi hk
   obtain ⟨_,_,ht'⟩:=rd' i (by omega) t ht
   rw [dst' k (by omega)] at hkd
   rw [anc']
   exact dp.slot i k t hi hk hne ht' hkd
  ·rw [sz'] at hi
   rw [anc']
   rcases dp.tot i k hi hk (isH' i (by omega) h1).1 (isH' k (by omega) h2).1 with h | h
   ·exact .inl h
   ·rw [(fxF i).2] at h; cases h.1
  ·rw [(fxF k).1] at h3; cases h3
  ·rw [sz'] at hi
   rw [anc',sz']
   have hFi:Fk i=false:=by
    cases hFi:Fk i with
    | false=>rfl
    | true=>rw [(at' i (by omega)).2,if_pos hFi] at hb; cases hb
   rw [hhid i (by omega) hFi] at hb
   obtain ⟨b1,b2⟩:=dp.bar i hi hb
   exact ⟨fun k hk hf=>b1 k hk (hfL' k (by omega) hf).1,fun k hk hkn hf=>b2 k hk hkn (hfL' k (by omega) hf).1⟩
  ·rw [sz'] at hi
   cases hFi:Fk i with
   | true=>rw [(at' i (by omega)).2,if_pos hFi]; exact Nat.zero_le _
   | false =>
    rw [hhid i (by omega) hFi]
    by_cases e:i=i0
    ·subst e; rw [(at' i (by omega)).1,if_pos rfl] at hHi; cases hHi
    ·rw [(at' i (by omega)).1,if_neg e,if_neg (by rw [hFi]; simp)] at hHi
     exact dp.pos i hi hHi
  ·rw [sz'] at hi hk
   rw [anc']
   obtain ⟨hf1,hFi⟩:=hfL' i (by omega) hfi
   obtain ⟨hH1,hFk⟩:=isH' k (by omega) hH
   rw [hhid i (by omega) hFi] at hp ⊢
   rw [hhid k (by omega) hFk] at hr
   by_cases e:i=i0
   ·subst e; rw [(at' i (by omega)).1,if_pos rfl] at hHi; cases hHi
   ·rw [(at' i (by omega)).1,if_neg e,if_neg (by rw [hFi]; simp)] at hHi
    exact dp.posR i k hi hk hHi hf1 hH1 hr hp
  ·rw [sz'] at hi
   rw [anc']
   have hFi:Fk i=false:=by
    cases hFi:Fk i with
    | false=>rfl
    | true=>rw [(at' i (by omega)).2,if_pos hFi] at hk; exact absurd hk (Nat.not_lt_zero _)
   rw [hhid i (by omega) hFi] at hk
   by_cases e:i=i0
   ·subst e; rw [(at' i (by omega)).1,if_pos rfl] at hHi; cases hHi
   ·rw [(at' i (by omega)).1,if_neg e,if_neg (by rw [hFi]; simp)] at hHi
    have hki:k<l.length:=by
     have:=dp.pos i hi hHi
     omega
    exact dp.posA i k hi hHi hk (isH' k hki hH).1
  ·rw [sz'] at hi
   obtain ⟨hf1,hFi⟩:=hfL' i (by omega) hfi
   obtain ⟨hH1,hFk⟩:=isH' k (by omega) hH
   rw [hhid i (by omega) hFi] at hk
   rw [hhid k (by omega) hFk]
   by_cases e:i=i0
   ·subst e; rw [(at' i (by omega)).1,if_pos rfl] at hHi; cases hHi
   ·rw [(at' i (by omega)).1,if_neg e,if_neg (by rw [hFi]; simp)] at hHi
    exact dp.posB i k hi hHi hf1 hki hk hH1
  ·rw [sz'] at hi
   exact hres i (by omega)
 have rdy:∀ (listed:Array Bool),listed.size=ops.size→Region.ready .any ops listed=[]→∀ k,k<ops.size→listed.getD k false=true:=by
  intro listed hs hr k
  induction k using Nat.strongRecOn with
  | _ k ih =>
   intro hk
   cases hb:listed.getD k false with
   | true=>rfl
   | false =>
    have:k∈Region.ready .any ops listed:=by
     rw [mem_ready]
     refine ⟨?_,ops[k],Array.getElem?_eq_getElem hk,fun e he hb=>?_⟩
     ·simpa [hs,hk] using hb
     ·have:=dp.edge k _ (Array.getElem?_eq_getElem hk) e.on (by
       unfold esO
       rw [List.mem_filterMap]
       exact ⟨e,by simpa using he,by rw [if_pos hb]⟩)
      exact ih _ this (by omega)
    rw [hr] at this; cases this
 have go:∀ (fuel:Nat) (listed:Array Bool) (a:Act) (w:World),listed.size=ops.size→ClosedD ops (fun k=>listed.getD k false)→(∀ k,k<ops.size→(k=i0∨Fk k=true)→listed.getD k false=false)→cntD (fun k=>listed.getD k false) ops.size≤fuel →
   Rel F w0 S0 ρ0 N ds (sD Φ hid' l' s0 ops' fun k=>listed.getD k false) a w→wpAny P .any ops Q fuel listed a w:=by
  intro fuel
  induction fuel with
  | zero =>
   intro listed a w hs hc hsk hn' R
   have hall:=cntD_zero (Nat.le_zero.1 hn') i0 (by omega)
   rw [hsk i0 (by omega) (.inl rfl)] at hall; cases hall
  | succ fuel ih =>
   intro listed a w hs hc hsk hn' R
   refine ⟨fun hr=>?_,fun i hi=>?_⟩
   ·have hall:=rdy listed hs hr i0 (by omega)
    rw [hsk i0 (by omega) (.inl rfl)] at hall; cases hall
   obtain ⟨h1,o,h2,h3⟩:=mem_ready.1 hi
   have hin:=(Array.getElem?_eq_some_iff.1 h2).1
   have hDi:listed.getD i false=false:=by simpa [hs,hin] using h1
   have hes:∀ e∈esO o,listed.getD e false=true:=by
    intro e he
    unfold esO at he
    rw [List.mem_filterMap] at he
    obtain ⟨e',he',hb⟩:=he
    split at hb
    ·injection hb with hb; subst hb; exact h3 e' (by simpa using he') (by assumption)
    ·cases hb
   have hc' : ClosedD ops' (fun k=>listed.getD k false):=by
    intro k o' hk ho' e he
    rw [get'] at ho'
    obtain ⟨o1,ho1,rfl⟩:=Option.map_eq_some_iff.1 ho'
    rw [chg_es] at he
    exact hc k o1 hk ho1 e he
   have hgo:o.guard=none:=by
    obtain ⟨_,_,_,m4⟩:=dp.mt i o h2
    rw [(plain i (by omega)).1] at m4
    cases hgo:o.guard with
    | none=>rfl
    | some g=>rw [hgo] at m4; exact m4.elim
   by_cases hi0' : i=i0
   ·subst hi0'
    obtain ⟨m1,m2,m3,_⟩:=dp.mt i o h2
    have h2' : ops'[i]?=some (chg i o):=by rw [get',h2]; rfl
    have hes' : ∀ e∈esO (chg i o),listed.getD e false=true:=by rw [chg_es]; exact hes
    have hheap:=d.heapH hc' h2' hDi hes' (by show (l'.getD i dflO).op.isH=true; rw [(at' i (by omega)).1,if_pos rfl]; rfl) (fxF i).1
    have hrd:∀ t∈(l.getD i dflO).op.rd,lk (sD Φ hid' l' s0 ops' fun k=>listed.getD k false).fr t=lk (stI Φ hid' l' s0 i).1.fr t:=by
     intro t ht
     have ht' := rd_op ht
     show lk (frD _ _ _ _ _) t=_
     rw [frD_lk,d.txt i (by rw [sz']; omega)]
     have uq:∀ n,n≤ops.size→∀ a b,a<n→b<n→dstL l' a=some t→dstL l' b=some t→a=b:=fun n hn a b ha hb h1 h2=>d.uniq a b t (by rw [sz']; omega) (by rw [sz']; omega) h1 h2
     have dl:∀ k,k<ops.size→dstL l' k=(l.getD k dflO).dst:=fun k hk=>dst' k (by omega)
     by_cases hk:∃ k,k<ops.size∧k≠i∧dstL l' k=some t
     ·obtain ⟨k,hk,hne,hkd⟩:=hk
      rcases dp.slot i k t hin hk hne ht' (by rw [← dl k hk]; exact hkd) with ⟨q1,q2⟩ | ⟨q1,q2⟩
      ·have hDk:=anc_ok hc h2 hes q2
       rw [slotD_in (uq _ (by rw [sz']; exact Nat.le_refl _)) (by rw [sz']; exact hk) hDk hkd,slotD_in (uq i (by omega)) q1 rfl hkd]
      ·rw [slotD_out (fun k' hk' hD' hd' => ?_),slotD_out (fun k' hk' _ hd' => ?_)]
       ·have:=d.uniq k' k t (by rw [sz']; omega) (by rw [sz']; omega) hd' hkd
        omega
       ·have:=d.uniq k' k t hk' (by rw [sz']; omega) hd' hkd
        subst this
        have ho:=Array.getElem?_eq_getElem hk
        have:listed.getD i false=true:=anc_ok hc ho (fun e h=>hc _ _ hD' ho e h) q2
        rw [hDi] at this; cases this
     ·rw [slotD_out (fun k' hk' hD' hd' => hk ⟨k',by rw [sz'] at hk'; exact hk',(fun e=>by rw [e,hDi] at hD'; cases hD'),hd'⟩),slotD_out (fun k' hk' _ hd' => hk ⟨k',by omega,by omega,hd'⟩)]
    have hthr1:thr ΦX (sD Φ hid' l' s0 ops' fun k=>listed.getD k false) (l.getD i dflO).op=some (x,ids,p):=by
     rw [thr_congr (s' := (stI Φ hid' l' s0 i).1) hheap hrd]; exact ht1
    unfold wpOp
    rw [h2]
    simp only
    rw [if_pos (by simp [Region.wanted,hgo])]
    refine .inl (thr_ok hX R m2 hthr1 ht2 fun v a' w' hr=>hT x ⟨[],(sD Φ hid' l' s0 ops' fun k=>listed.getD k false).hp⟩ ids v a' w' ?_ hr.bare)
    show T x ⟨[],hpD Φ ops' hid' l' s0 _⟩ ids
    rw [hheap]; exact ht3
   ·by_cases hFi:Fk i=true
    ·exfalso
     obtain ⟨q1,q2⟩:=hF i hFi
     obtain ⟨_,_,e3,_⟩:=hf (i - i0 - 1) (by rw [List.length_drop]; omega)
     rw [drp,show i0+1+(i - i0 - 1)=i by omega] at e3
     rcases e3 q2 with h | ⟨t,ht,h⟩
     ·rcases dp.tot i i0 hin q1 h hthr with h | h
      ·have:listed.getD i0 false=true:=anc_ok hc h2 hes h
       rw [hsk i0 (by omega) (.inl rfl)] at this; cases this
      ·rw [(fxF i).2] at h; cases h.1
     ·rcases h with h | ⟨j',hj1,hj2,hj3⟩
      ·have hd0:(l.getD i0 dflO).dst=some t:=by
        cases hdd:(l.getD i0 dflO).dst with
        | none=>rw [hdd] at h; simp at h
        | some u=>rw [hdd] at h; simp at h; rw [h]
       rcases dp.slot i i0 t hin (by omega) (by omega) ht hd0 with ⟨_,h⟩ | ⟨h,_⟩
       ·have:listed.getD i0 false=true:=anc_ok hc h2 hes h
        rw [hsk i0 (by omega) (.inl rfl)] at this; cases this
       ·omega
      ·rw [drp] at hj3
       rcases dp.slot i (i0+1+j') t hin (by omega) (by omega) ht hj3 with ⟨_,h⟩ | ⟨h,_⟩
       ·have:listed.getD (i0+1+j') false=true:=anc_ok hc h2 hes h
        rw [hsk (i0+1+j') (by omega) (.inr (by simp only [Fk]; rw [decide_eq_true (by omega),Bool.true_and,show i0+1+j' - i0 - 1=j' by omega]; exact hj2))] at this; cases this
       ·omega
    ·have hco:chg i o=o:=by simp only [chg]; rw [if_neg hi0',if_neg hFi]
     have h2' : ops'[i]?=some o:=by rw [get',h2]; simp only [Option.map_some,hco]
     have hset:(fun k=>(listed.setIfInBounds i true).getD k false)=addD (fun k=>listed.getD k false) i:=by
      funext k
      by_cases e:k=i
      ·subst e; simp [addD,hs,hin]
      ·rw [getD_set_ne false (Ne.symm e)]; simp [addD,e]
     have hone:=d.one (Q:=Q) (K:=wpAny P .any ops Q fuel (listed.setIfInBounds i true)) hc' h2' hDi hes hΦ R fun a' w' R' => ih _ a' w' (by simpa using hs) (by
      rw [hset]
      intro k o' hk ho' e he
      by_cases ek:k=i
      ·subst ek
       rw [h2] at ho'; injection ho' with ho'; subst ho'
       unfold addD; split
       ·rfl
       ·exact hes e he
      ·have:=hc k o' (by simpa [addD,ek] using hk) ho' e he
       unfold addD; split
       ·rfl
       ·exact this) (fun k hk hkk=>by
      have hne:k≠i:=by
       rintro rfl
       rcases hkk with h | h
       ·exact hi0' h
       ·exact hFi h
      rw [getD_set_ne false (Ne.symm hne)]; exact hsk k hk hkk) (by
      rw [hset]
      have:=cntD_add (D:=fun k=>listed.getD k false) (i:=i) (n:=ops.size) hDi
      rw [if_pos hin] at this; omega) (by rw [hset]; exact R')
     unfold wpOp at hone ⊢
     rw [h2'] at hone
     rw [h2]
     simp only at hone ⊢
     rw [if_pos (by simp [Region.wanted,hgo])] at hone ⊢
     exact hone
 have z0:∀ k,(Array.replicate ops.size false).getD k false=false:=by
  intro k
  rcases Nat.lt_or_ge k ops.size with h | h <;> simp [h]
 refine wp_region_any hd.1 (go _ _ _ _ (by simp) (fun k o hk _=>?_) (fun k _ _=>z0 k) (cntD_le _) ?_)
 ·have hk' : (Array.replicate ops.size false).getD k false=true:=hk
  rw [z0] at hk'; cases hk'
 ·have hf0:(fun k=>(Array.replicate ops.size false).getD k false)=fun _=>false:=by funext k; exact z0 k
  rw [hf0]
  have R' : Rel F w0 S0 ρ0 N ds s0 a { w with drawn:=w.drawn+1 }:=by
   obtain ⟨S,ρ,R⟩:=R
   obtain ⟨H',hE⟩:=R.heap.same (w' := { w with drawn:=w.drawn+1 }) (S' := S) ⟨rfl,rfl,rfl,Nat.le_refl _,fun _ _=>rfl⟩ (fun _ h=>h) (fun _ h=>.inl h)
   exact ⟨S,ρ,H',R.fr.ext hE,R.size,R.dfr,R.sin,R.ext.trans hE⟩
  have hres' : ∀ n,Rel F w0 S0 ρ0 N ds ⟨s0.fr,s0.hp ++ flD ops' l' (fun _=>false) n⟩ a { w with drawn:=w.drawn+1 }:=by
   intro n
   induction n with
   | zero=>simpa [flD] using R'
   | succ n ih =>
    simp only [flD]
    split
    ·rw [← List.append_assoc]; exact ih.keep
    ·exact ih
  refine (hres' ops'.size).congr (fun t=>?_) ?_
  ·show _=lk (frD _ _ _ _ _) t
   rw [frD_lk,slotD_out]
   intro k _ h; cases h
  ·show _=hpD Φ ops' hid' l' s0 _
   unfold hpD
   rw [if_neg]
   intro h
   obtain ⟨_,_,h,_⟩:=anyNF_ok h
   cases h
end
def awp3 (Φ:Phi) (ΦX:PhX) (T:AV→St→List Nat→Prop) (m:Nat):ACode→(Exit→S2→Prop)→S2→Prop
 | .skip,Q,s=>Q .normal s
 | .reg none l,Q,s=>arun3 Φ ΦX T l (Q .normal) s
 | .reg (some hid) l,Q,s=>if isAny hid=true then all3 Φ ΦX T (depsOf hid) l (Q .normal) l.length 0 s else if plainL l=true then arunD3 Φ ΦX T hid l [] (Q .normal) s else arunD2 Φ hid l [] (Q .normal) s
 | .seq x y,Q,s=>awp3 Φ ΦX T m x (thenQ2 (awp3 Φ ΦX T m y Q) Q) s
 | .cond c x y,Q,s=>condQ ((toS s).ev c) (awp3 Φ ΦX T m x Q s) (awp3 Φ ΦX T m y Q s)
 | .block id c,Q,s=>awp3 Φ ΦX T m c (inQ2 id Q) s
 | .loop c,Q,s=>loopQ2 m (awp3 Φ ΦX T m c) Q s
 | .exit id,Q,s=>Q (.exit id) s
 | .ret,Q,s=>Q .ret s
 | .scope c,Q,s=>awp3 Φ ΦX T m c (noG2 Q) s
section
variable {P : Program} {Φ : Phi} {ΦX : PhX} {F : Nat → Prop} {w0 w : World} {S S0 : Nat → Prop} {ρ ρ0 : Rho} {N m : Nat} {ds : List Deferred} {a : Act} {T : AV → St → List Nat → Prop} {hp : List AObj}
theorem awp3_ok (hΦ:PhiOk P Φ) (hX:PhXOk P ΦX) (hm0:∀ i v L,ρ0 i v=some L→i<m):∀ (c:ACode) (Q:Exit→S2→Prop) (s2:S2),awp3 Φ ΦX T m c Q s2→∀ (code:Code),MtC P N code c→∀ (Q' : Exit→Act→World→Prop),
  (∀ e s a w,Q e s→Rel F w0 S0 ρ0 N ds (toS s) a w→Q' e a w)→(∀ x hp ids v a w,T x hp ids→RelX F w0 S0 ρ0 ds x hp ids v a w→Q' (.panic [{ v,recovered:=false }]) a w)→∀ a w,Rel F w0 S0 ρ0 N ds (toS s2) a w→code.wp P Q' a w:=by
 intro c
 induction c with
 | skip =>
  intro Q s h code hm Q' hQ hT a w R
  cases code <;> first | exact wp_skip (hQ _ _ _ _ h R) | exact wp_label (hQ _ _ _ _ h R) | exact hm.elim | (rename_i d; cases d <;> exact hm.elim)
 | reg hid l =>
  intro Q s h code hm Q' hQ hT a w R
  cases code <;> first | exact hm.elim | (rename_i d; cases d <;> exact hm.elim) | skip
  case region id' ops draw =>
   cases draw with
   | false =>
    cases hid with
    | none=>exact wp_region_list (arun3_ok hΦ hX (fun s a w hk R=>hQ _ s a w hk R) hT _ _ s a w hm h R)
    | some _=>exact hm.elim
   | true =>
    cases hid with
    | none=>exact hm.elim
    | some hid =>
     obtain ⟨hm1,hm2⟩:=hm
     simp only [awp3] at h
     cases hh:isAny hid with
     | true=>rw [hh,if_pos rfl] at h hm2; exact aany3_ok hΦ hX hm1 hm2 h R (fun s a w hk R=>hQ _ s a w hk R) hT
     | false =>
      rw [hh,if_neg Bool.false_ne_true] at h hm2
      have old:arunD2 Φ hid l [] (Q .normal) s→(Code.region id' ops true).wp P Q' a w:=fun h=>adraw_ok (K:=fun s=>∃ s2,R2 s s2∧Q .normal s2) hΦ hm1 hm2 (arunD2_ok l hid [] (fun s=>∃ s2,R2 s s2∧Q .normal s2) (Q .normal) (fun s s2 h1 h2=>⟨s2,h1,h2⟩) (toS s) s (R2.toS _) h) R
       fun s a w ⟨s2,h1,h2⟩ R=>hQ _ s2 a w h2 (R.toS h1)
      split at h
      ·rename_i hpl
       rcases arunD3_or l hid [] (Q .normal) (toS s) s (R2.toS _) h with h1 | h1
       ·exact old h1
       ·exact adrawX_ok hΦ hX hm1 hm2 hpl h1 R hT
      ·exact old h
 | seq x y ihx ihy =>
  intro Q s h code hm Q' hQ hT a w R
  cases code <;> first | exact hm.elim | (rename_i d; cases d <;> exact hm.elim) | skip
  case seq x' y' =>
   refine wp_seq (ihx _ s h x' hm.1 (Exit.then (Code.wp P y' Q') Q') (fun e s a w hq R=>?_) (fun x hp ids v a w ht R=>hT x hp ids v a w ht R) a w R)
   cases e <;> first | exact ihy Q s hq y' hm.2 Q' hQ hT a w R | exact hQ _ _ _ _ hq R
 | cond c x y ihx ihy =>
  intro Q s h code hm Q' hQ hT a w R
  cases code <;> first | exact hm.elim | (rename_i d; cases d <;> exact hm.elim) | skip
  case cond c' x' y' =>
   obtain ⟨rfl,h1,h2⟩:=hm
   have R' := R
   obtain ⟨S,ρ,R0⟩:=R
   have hv:=ev_ok R0.fr c'
   simp only [awp3,condQ] at h
   split at h
   ·rename_i b hb
    rw [hb] at hv
    refine wp_cond hv.bool ?_
    cases b with
    | true=>exact ihx Q s (h.1 rfl) x' h1 Q' hQ hT a w R'
    | false=>exact ihy Q s (h.2 rfl) y' h2 Q' hQ hT a w R'
   ·exact h.elim
 | block id c ih =>
  intro Q s h code hm Q' hQ hT a w R
  cases code <;> first | exact hm.elim | (rename_i d; cases d <;> exact hm.elim) | skip
  case block id' c' =>
   obtain ⟨rfl,hc⟩:=hm
   refine wp_block (ih _ s h c' hc (Exit.inBlock id' Q') (fun e s a w hq R=>?_) (fun x hp ids v a w ht R=>hT x hp ids v a w ht R) a w R)
   cases e
   case exit i =>
    simp only [inQ2] at hq
    simp only [Exit.inBlock]
    split
    ·rename_i e; rw [if_pos e] at hq; exact hQ _ _ _ _ hq R
    ·rename_i e; rw [if_neg e] at hq; exact hQ _ _ _ _ hq R
   all_goals exact hQ _ _ _ _ hq R
 | loop c ih =>
  intro Q s h code hm Q' hQ hT a w R
  cases code <;> first | exact hm.elim | (rename_i d; cases d <;> exact hm.elim) | skip
  case loop c' =>
   obtain ⟨nils,slots,ids,I,μ,hnd,htk,⟨s',hk,hI⟩,hr⟩:=h
   obtain ⟨s1,hI1,R1⟩:=kpQ_rel (slots:=slots) (I:=I) hm0 ⟨nils,ids,s',hnd,htk,hk,hI⟩ R
   have key:∀ (k:Nat) (s:St) (a:Act) (w:World),μ s=k→I s→Rel F w0 S0 ρ0 N ds s a w→∀ (b:Frame) (kk:List Item) (cs:List Frame),∃ e a' w',Q' e a' w' ∧ Arrives P (lone (b.at a (.code c' :: .inLoop c' :: kk)) cs w) b kk cs e a' w' := by
    intro k
    induction k using Nat.strongRecOn with
    | _ k ihk =>
     intro s a w hk hI R b kk cs
     have hbody:=ih _ (ofS s) (hr s hI) c' hm (Exit.then (fun a' w' => ∃ s2,(I s2∧μ s2<μ s)∧Rel F w0 S0 ρ0 N ds s2 a' w') Q') (fun e s1 a1 w1 hq R1=>by
      cases e
      case normal=>exact kpQ_rel hm0 hq R1
      all_goals exact hQ _ _ _ _ hq R1) (fun x hp ids v a w ht R=>hT x hp ids v a w ht R) a w (R.toS (R2.ofS s))
     obtain ⟨e,a1,w1,hq,harr⟩:=hbody b (.inLoop c' :: kk) cs
     cases e with
     | normal =>
      obtain ⟨s2,⟨hI2,hlt⟩,R2⟩:=hq
      obtain ⟨e2,a2,w2,hq2,harr2⟩:=ihk (μ s2) (by omega) s2 a1 w1 rfl hI2 R2 b kk cs
      exact ⟨e2,a2,w2,hq2,.of_steps (Steps.trans harr (.one step_inLoop)) harr2⟩
     | exit id=>exact ⟨_,a1,w1,hq,.pass (x:=.inLoop c') rfl (fun _ _=>.inl (by simp)) harr⟩
     | goto l=>exact ⟨_,a1,w1,hq,.pass (x:=.inLoop c') rfl (fun _ _=>.inl (by simp)) harr⟩
     | ret=>exact ⟨_,a1,w1,hq,.pass (x:=.inLoop c') rfl (fun _ _=>.inl (by simp)) harr⟩
     | panic ch=>exact ⟨_,a1,w1,hq,.pass (x:=.inLoop c') rfl (fun _ _=>.inl (by simp)) harr⟩
     | outgrown=>exact ⟨_,a1,w1,hq,.pass (x:=.inLoop c') rfl (fun _ _=>.inl (by simp)) harr⟩
   intro b kk cs
   obtain ⟨e,a',w',hq,harr⟩:=key _ s1 a w rfl hI1 R1 b kk cs
   exact ⟨e,a',w',hq,.of_steps (.one step_loop) harr⟩
 | exit i =>
  intro Q s h code hm Q' hQ hT a w R
  cases code <;> first | exact hm.elim | (rename_i d; cases d <;> exact hm.elim) | skip
  case exit i' => obtain rfl:=hm; exact wp_exit (hQ _ _ _ _ h R)
 | ret =>
  intro Q s h code hm Q' hQ hT a w R
  cases code <;> first | exact hm.elim | (rename_i d; cases d <;> exact hm.elim) | skip
  case ret=>exact wp_ret (hQ _ _ _ _ h R)
 | scope c ih =>
  intro Q s h code hm Q' hQ hT a w R
  cases code <;> first | exact hm.elim | (rename_i d; cases d <;> exact hm.elim) | skip
  case scope c' =>
   refine wp_scope_straight (ih (noG2 Q) s h c' hm (Exit.noGoto Q') (fun e s a w hq R=>?_) (fun x hp ids v a w ht R=>hT x hp ids v a w ht R) a w R)
   cases e <;> first | exact hq.elim | exact hQ _ _ _ _ hq R
theorem fnX_ok {f:FuncId} {fn:Func} {code:Code} {ac:ACode} {sp:XSpec} (hf:P.funcs[f]?=some fn) (hb:fn.body=some code) (hm:MtC P fn.ntmps code ac) (hΦ:PhiOk P Φ) (hX:PhXOk P ΦX)
  (h:∀ «as» hp x p,sp «as» hp=some (x,p)→p→«as».length≤fn.ntmps∧awp3 Φ ΦX (fun x' _ _=>x' = x) hp.length ac (fun _ _=>False) (ofS ⟨slots 0 «as»,hp⟩)):FnPX P f sp:=by
 intro «as» hp x p hs hp' w S ρ args H ha
 obtain ⟨hlen,hw⟩:=h «as» hp x p hs hp'
 refine calls_of_wp hf hb ?_
 have hal:args.length≤fn.ntmps:=by rw [ha.2]; exact hlen
 have R:Rel (Lent ρ hp) w S ρ fn.ntmps [] ⟨slots 0 «as»,hp⟩ { tmps:=args.toArray ++ Array.replicate (fn.ntmps - args.toArray.size) undef,defers:=[] } w:=by
  refine ⟨S,ρ,H,⟨ha.1,fun t=>?_⟩,by simp; omega,rfl,fun b hb=>.inl hb,Ext.refl _ _ _⟩
  rw [lk_slots,if_pos (Nat.zero_le t),Nat.sub_zero]
  rcases Nat.lt_or_ge t «as».length with hlt | hge
  ·have:=ha.3 t hlt
   have e:(args.toArray ++ Array.replicate (fn.ntmps - args.toArray.size) undef).getD t undef=args.getD t undef:=by
    have hta:t<args.length:=by rw [ha.2]; exact hlt
    have h1:(args.toArray ++ Array.replicate (fn.ntmps - args.toArray.size) undef)[t]?=some args[t]:=by
     rw [Array.getElem?_append_left (by simpa using hta)]; simp [hta]
    rw [Array.getD_eq_getD_getElem?,h1,List.getD_eq_getElem?_getD,List.getElem?_eq_getElem hta]
   rw [e]; exact this
  ·have:«as».getD t .top=.top:=by rw [List.getD_eq_getElem?_getD,List.getElem?_eq_none hge]; rfl
   rw [this]; exact Vl.top _
 refine awp3_ok hΦ hX (fun i v L hL=>?_) ac _ _ hw code hm _ (fun e s a w' hq R' => hq.elim) (fun x' hp' ids v a w' ht R' => ?_) _ w (R.toS (R2.ofS _))
 ·rcases Nat.lt_or_ge i hp.length with h1 | h1
  ·exact h1
  ·rw [H.new i h1] at hL; cases hL
 ·obtain ⟨hv,hdf,w1,S',ρ',HH,hk,_⟩:=R'
  subst ht
  refine ⟨hdf,v,rfl,hv,HH.kept.cont hk fun b hb=>?_⟩
  obtain ⟨id,o,_,ho,hbb⟩:=hb
  exact HH.mine id o ho b hbb
theorem fn_slimX {f:FuncId} {fn:Func} {ac:ACode} {rs:List ARes} {sp:XSpec} {pr:Bool} (hf:P.funcs[f]?=some fn) (hs:slimG pr P fn=some (ac,rs)) (hΦ:PhiOk P Φ) (hX:PhXOk P ΦX)
  (h:∀ «as» hp x p,sp «as» hp=some (x,p)→p→«as».length≤fn.ntmps∧awp3 Φ ΦX (fun x' _ _=>x' = x) hp.length ac (fun _ _=>False) (ofS ⟨slots 0 «as»,hp⟩)):FnPX P f sp:=by
 unfold slimG at hs
 split at hs
 ·rename_i c hc
  split at hs
  ·rename_i ac' rs' h1 h2
   simp only [Option.some.injEq,Prod.mk.injEq] at hs
   obtain ⟨rfl,rfl⟩:=hs
   exact fnX_ok hf hc (slimC_ok h1) hΦ hX h
  ·cases hs
 ·cases hs
theorem arun3_mono:∀ (l:List AOper) (s:S2) (K K' : S2→Prop),(∀ s,K s→K' s)→arun3 Φ ΦX T l K s→arun3 Φ ΦX T l K' s:=by
 intro l
 induction l with
 | nil=>intro s K K' h hk; exact h _ hk
 | cons o r ih =>
  intro s K K' h hk
  obtain ⟨d,op,g⟩:=o
  cases g with
  | none =>
   simp only [arun3] at hk ⊢
   split
   ·rename_i e; rw [if_pos e] at hk
    split
    ·rename_i e; rw [if_pos e] at hk; exact hk
    ·rename_i e; rw [if_neg e] at hk; exact aq2_mono (fun s' hs=>ih _ _ _ h hs) hk
   ·rename_i e; rw [if_neg e] at hk; exact aq2_mono (fun s' hs=>ih _ _ _ h hs) hk
  | some g=>exact arun2_mono _ s K K' h hk
theorem all3_mono {deps:List Nat} {l:List AOper} {K K' : S2→Prop} (h:∀ s,K s→K' s):∀ (n dn:Nat) (s:S2),all3 Φ ΦX T deps l K n dn s→all3 Φ ΦX T deps l K' n dn s:=by
 intro n
 induction n with
 | zero=>intro dn s hk; exact h s hk
 | succ n ih =>
  intro dn s hk
  have key:∀ (i:Nat) (deps' : List Nat) (l' : List AOper),next3 Φ ΦX T (all3 Φ ΦX T deps l K n) s dn i deps' l' → next3 Φ ΦX T (all3 Φ ΦX T deps l K' n) s dn i deps' l' := by
   intro i deps' l'
   induction l' generalizing i deps' with
   | nil=>intro hh; cases deps' <;> exact hh
   | cons o l' ihl =>
    intro hh
    cases deps' with
    | nil=>exact hh
    | cons d deps' =>
     refine ⟨?_,ihl _ _ hh.2⟩
     have h1:=hh.1
     split
     ·rename_i e; rw [if_pos e] at h1
      obtain ⟨d',op,g⟩:=o
      cases g with
      | none =>
       simp only [step3] at h1 ⊢
       split
       ·rename_i e; rw [if_pos e] at h1
        split
        ·rename_i e; rw [if_pos e] at h1; exact h1
        ·rename_i e; rw [if_neg e] at h1; exact aq2_mono (fun s' hs=>ih _ _ hs) h1
       ·rename_i e; rw [if_neg e] at h1; exact aq2_mono (fun s' hs=>ih _ _ hs) h1
      | some g=>exact h1
     ·trivial
  exact key 0 deps l hk
theorem arunD3_mono:∀ (l:List AOper) (hs:Hid1) (ls:List Nat) (s:S2) (K K' : S2→Prop),(∀ s,K s→K' s)→arunD3 Φ ΦX T hs l ls K s→arunD3 Φ ΦX T hs l ls K' s:=by
 intro l
 induction l with
 | nil=>intro hs ls s K K' h hk; cases hs <;> exact h _ hk
 | cons o r ih =>
  intro hs ls s K K' h hk
  obtain ⟨d,op,g⟩:=o
  cases hs with
  | nil=>cases g <;> exact hk.elim
  | cons hd hs =>
   cases g with
   | none =>
    simp only [arunD3] at hk ⊢
    split
    ·rename_i e; rw [if_pos e] at hk
     split
     ·rename_i e; rw [if_pos e] at hk; exact hk
     ·rename_i e; rw [if_neg e] at hk; exact aq2_mono (fun s' hs' => ih _ _ _ _ _ h hs') hk
    ·rename_i e; rw [if_neg e] at hk; exact aq2_mono (fun s' hs' => ih _ _ _ _ _ h hs') hk
   | some g=>exact arunD2_mono _ _ _ s K K' h hk
theorem awp3_mono:∀ (c:ACode) (Q Q' : Exit→S2→Prop),(∀ e s,Q e s→Q' e s)→∀ s,awp3 Φ ΦX T m c Q s→awp3 Φ ΦX T m c Q' s:=by
 intro c
 induction c with
 | skip=>intro Q Q' h s hq; exact h _ _ hq
 | reg hid l =>
  intro Q Q' h s hq
  cases hid with
  | none=>exact arun3_mono l s _ _ (fun s=>h _ s) hq
  | some hid =>
   simp only [awp3] at hq ⊢
   split
   ·rename_i hh; rw [if_pos hh] at hq; exact all3_mono (fun s=>h _ s) _ _ _ hq
   ·rename_i hh; rw [if_neg hh] at hq
    split
    ·rename_i hp; rw [if_pos hp] at hq; exact arunD3_mono l hid _ s _ _ (fun s=>h _ s) hq
    ·rename_i hp; rw [if_neg hp] at hq; exact arunD2_mono l hid _ s _ _ (fun s=>h _ s) hq
 | seq x y ihx ihy =>
  intro Q Q' h s hq
  refine ihx _ _ (fun e s hs=>?_) s hq
  cases e <;> first | exact ihy _ _ h s hs | exact h _ _ hs
 | cond c x y ihx ihy =>
  intro Q Q' h s hq
  simp only [awp3,condQ] at hq ⊢
  split
  ·rename_i b hb; rw [hb] at hq; exact ⟨fun e=>ihx _ _ h s (hq.1 e),fun e=>ihy _ _ h s (hq.2 e)⟩
  ·rename_i hn
   split at hq
   ·rename_i b hb; exact absurd hb (hn b)
   ·exact hq
 | block id c ih =>
  intro Q Q' h s hq
  refine ih _ _ (fun e s hs=>?_) s hq
  cases e <;> simp only [inQ2] at hs ⊢ <;> first | exact h _ _ hs | (split <;> rename_i e <;> simp only [e,if_true,if_false] at hs <;> exact h _ _ hs)
 | loop c ih =>
  intro Q Q' h s hq
  obtain ⟨nils,sl,ids,I,μ,hm,hm2,h0,hr⟩:=hq
  refine ⟨nils,sl,ids,I,μ,hm,hm2,h0,fun s hs=>ih _ _ (fun e s' hs' => ?_) _ (hr s hs)⟩
  cases e <;> first | exact hs' | exact h _ _ hs'
 | exit i=>intro Q Q' h s hq; exact h _ _ hq
 | ret=>intro Q Q' h s hq; exact h _ _ hq
 | scope c ih=>intro Q Q' h s hq; exact ih _ _ (fun e s hs=>by cases e <;> first | exact hs.elim | exact h _ _ hs) s hq
open Classical in
theorem loop3P {c:ACode} {Q:Exit→S2→Prop} {s:S2} {α:Type} (nils:List (Nat × TypeId × Nat)) (sl ids:List Nat) (st:α→St) (Inv:α→Prop) (μ:α→Nat) (a0:α) (hk:ent nils sl ids (toS s)=some (st a0)) (h0:Inv a0) (hm:nodupB ids=true∧ids.take m=List.range m)
  (h:∀ a,Inv a→∀ R:S2→Prop,(∀ s' a',Inv a' → μ a' < μ a→kp sl ids.length (toS s')=some (st a')→R s')→awp3 Φ ΦX T m c (thenQ2 R Q) (ofS (st a))):loopQ2 m (awp3 Φ ΦX T m c) Q s:=by
 have hmn:m≤ids.length:=by
  have:=congrArg List.length hm.2
  simp only [List.length_take,List.length_range] at this; omega
 have least:∀ s,(∃ a,Inv a∧st a=s)→∃ a,Inv a∧st a=s∧∀ a',Inv a' → st a' = s→μ a≤μ a' := by
  intro s hs
  obtain ⟨a,ha,hs⟩:=hs
  generalize hk:μ a=k
  induction k using Nat.strongRecOn generalizing a with
  | _ k ih =>
   by_cases hex:∃ a',Inv a' ∧ st a' = s∧μ a' < k
   ·obtain ⟨a',h1,h2,h3⟩:=hex
    exact ih (μ a') h3 a' h1 h2 rfl
   ·refine ⟨a,ha,hs,fun a' h1 h2=>?_⟩
    rw [hk]
    exact Nat.le_of_not_lt fun hlt=>hex ⟨a',h1,h2,hlt⟩
 obtain ⟨M,hM1,hM2⟩:∃ M:St→Nat,(∀ s,(∃ a,Inv a∧st a=s)→∃ a,Inv a∧st a=s∧M s=μ a)∧∀ a,Inv a→M (st a)≤μ a:=by
  refine ⟨fun s=>if h:∃ a,Inv a∧st a=s then μ (least s h).choose else 0,fun s hs=>?_,fun a ha=>?_⟩
  ·obtain ⟨c1,c2,c3⟩:=(least s hs).choose_spec
   refine ⟨_,c1,c2,?_⟩
   simp only [dif_pos hs]
  ·have hs:∃ a',Inv a' ∧ st a' = st a:=⟨a,ha,rfl⟩
   obtain ⟨c1,c2,c3⟩:=(least _ hs).choose_spec
   simp only [dif_pos hs]
   exact c3 a ha rfl
 refine ⟨nils,sl,ids,fun s=>∃ a,Inv a∧st a=s,M,hm.1,hm.2,⟨_,hk,a0,h0,rfl⟩,fun s hs=>?_⟩
 obtain ⟨a,ha,has,hμ⟩:=hM1 s hs
 rw [hμ]
 subst has
 refine awp3_mono _ _ _ (fun e s' hq=>?_) _ (h a ha (fun s' => ∃ a',Inv a' ∧ μ a' < μ a∧kp sl ids.length (toS s')=some (st a')) fun s' a' k1 k2 k3=>⟨a',k1,k2,k3⟩)
 cases e with
 | normal =>
  obtain ⟨a',h1,h2,h3⟩:=hq
  exact ⟨[],List.range ids.length,_,nodup_range _,by rw [List.take_range,Nat.min_eq_left hmn],h3,⟨a',h1,rfl⟩,Nat.lt_of_le_of_lt (hM2 a' h1) h2⟩
 | _=>exact hq
end
section
variable {Φ : Phi} {ΦX : PhX} {T : AV → St → List Nat → Prop} {m id : Nat} {Q : Exit → S2 → Prop} {K : S2 → Prop} {s : S2} {x y c : ACode} {l r : List AOper} {hs : Hid1} {d : Option Nat} {op : AOp} {cc : Opd} {g : Nat × Bool} {z : AV} {ids : List Nat} {st : St}
@[go_sem] theorem x_skip:awp3 Φ ΦX T m .skip Q s=Q .normal s:=_root_.id rfl
@[go_sem] theorem x_reg:awp3 Φ ΦX T m (.reg none l) Q s=arun3 Φ ΦX T l (Q .normal) s:=_root_.id rfl
@[go_sem] theorem x_draw {z:Nat × Bool}:awp3 Φ ΦX T m (.reg (some (z :: hs)) l) Q s=if z.1=1000 then all3 Φ ΦX T (hs.map Prod.fst) l (Q .normal) l.length 0 s else if plainL l=true then arunD3 Φ ΦX T (z :: hs) l [] (Q .normal) s else arunD2 Φ (z :: hs) l [] (Q .normal) s:=by
 obtain ⟨n,b⟩:=z
 simp only [awp3,isAny,beq_iff_eq,depsOf,List.tail_cons]
@[go_sem] theorem x_seq:awp3 Φ ΦX T m (.seq x y) Q s=awp3 Φ ΦX T m x (thenQ2 (awp3 Φ ΦX T m y Q) Q) s:=_root_.id rfl
@[go_sem] theorem x_cond:awp3 Φ ΦX T m (.cond cc x y) Q s=if isB ((toS s).ev cc) true then awp3 Φ ΦX T m x Q s else if isB ((toS s).ev cc) false then awp3 Φ ΦX T m y Q s else False:=condQ_if
@[go_sem] theorem x_block:awp3 Φ ΦX T m (.block id c) Q s=awp3 Φ ΦX T m c (inQ2 id Q) s:=_root_.id rfl
@[go_sem] theorem x_loop:awp3 Φ ΦX T m (.loop c) Q s=loopQ2 m (awp3 Φ ΦX T m c) Q s:=_root_.id rfl
@[go_sem] theorem x_exit:awp3 Φ ΦX T m (.exit id) Q s=Q (.exit id) s:=_root_.id rfl
@[go_sem] theorem x_ret:awp3 Φ ΦX T m .ret Q s=Q .ret s:=_root_.id rfl
@[go_sem] theorem x_nil:arun3 Φ ΦX T [] K s=K s:=_root_.id rfl
@[go_sem] theorem x_op:arun3 Φ ΦX T (⟨d,op,none⟩ :: r) K s=if op.isThr=true then (if (thr ΦX (toS s) op).isSome=true then tq3 (thr ΦX (toS s) op) T (toS s) else aq2 (astep Φ (toS s) op) s d (arun3 Φ ΦX T r K)) else aq2 (astep Φ (toS s) op) s d (arun3 Φ ΦX T r K):=_root_.id rfl
@[go_sem] theorem x_dnil {hs:Hid1} {lens:List Nat}:arunD3 Φ ΦX T hs [] lens K s=K s:=by cases hs <;> rfl
@[go_sem] theorem x_dop {h : Nat × Bool} {lens : List Nat} : arunD3 Φ ΦX T (h :: hs) (⟨d, op, none⟩ :: r) lens K s = if op.isThr = true then (if (thr ΦX (toS s) op).isSome = true then (op.isH = true ∧ tq3 (thr ΦX (toS s) op) T ⟨[], s.hp⟩ ∧ arunD2 Φ (h :: skH d.toList hs r) (boxO d :: skL d.toList r) lens (fun _ => True) s)
      else aq2 (exD Φ h ⟨d,op,none⟩ (lens ++ [s.hp.length]) (toS s)) s d (arunD3 Φ ΦX T hs r (lens ++ [s.hp.length]) K)) else aq2 (exD Φ h ⟨d,op,none⟩ (lens ++ [s.hp.length]) (toS s)) s d (arunD3 Φ ΦX T hs r (lens ++ [s.hp.length]) K):=_root_.id rfl
@[go_sem] theorem x_tq {p:Prop}:tq3 (some (z,ids,p)) T st=(p∧T z st ids):=_root_.id rfl
@[go_sem] theorem phXL_at {f g:FuncId} {mm:List Bool} {sp:XSpec} {r:List (FuncId × List Bool × XSpec)}:phXL ((f,mm,sp) :: r) g=if g=f then some (mm,sp) else phXL r g:=_root_.id rfl
@[go_sem] theorem phXL_no {g:FuncId}:phXL [] g=none:=_root_.id rfl
end
attribute [go_sem] AOp.isThr thr pcall0 pcall1 pcall2 constB all3 next3 step3 plainL skH skL skB boxO skO AOper.rd AOp.rd Opd.rd AOper.isNew List.any_cons List.any_nil Option.isNone_none Option.toList_some Option.toList_none
end Go.Proofs.YtakolikdebfkeaaGreatDoor
