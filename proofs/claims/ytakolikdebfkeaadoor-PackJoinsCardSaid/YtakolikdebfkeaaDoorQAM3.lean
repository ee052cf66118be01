import Derived.Test.YtakolikdebfkeaaDoorQAM2
import Derived.Orders
import Derived.Scope
import Derived.Test.YtakolikdebfkeaaDoorQArgs
open Nat (reduceDiv reduceMod reduceSub reduceAdd reduceLeDiff reduceEqDiff)
set_option linter.all false
namespace Go.Proofs.YtakolikdebfkeaaDoor
open Go.RowKit
def aq:Option (AV × List AObj × Prop)→St→Option Nat→(St→Prop)→Prop
 | some (x,hp,p),s,d,K=>p∧K (s.put d x hp)
 | none,_,_,_=>False
def St.pin (s:St) (t:Nat) (b:Bool):St:=⟨(t,.bool b) :: s.fr,s.hp⟩
def St.pinV (s:St) (t:Nat) (x:AV):St:=⟨(t,x) :: s.fr,s.hp⟩
def gdQ (x:AV) (b:Bool) (p:Prop) (q:AV→Prop):Prop :=
 match x with
 | .bool c=>(c=b→p)∧(c=(!b)→q (.bool (!b)))
 | .tup []=>q (.tup [])
 | _=>False
theorem gdQ_ok {x:AV} {b:Bool} {p:Prop} {q:AV→Prop} (h:gdQ x b p q):(∃ c,x=.bool c∧(c=b→p)∧(c=(!b)→q (.bool (!b))))∨(x=.tup []∧q (.tup [])):=by
 unfold gdQ at h
 split at h
 ·exact .inl ⟨_,rfl,h⟩
 ·exact .inr ⟨rfl,h⟩
 ·exact h.elim
theorem gdQ_mono {x:AV} {b:Bool} {p p' : Prop} {q q' : AV→Prop} (h:gdQ x b p q) (hp:p→p') (hq:∀ y,q y→q' y):gdQ x b p' q' := by
 unfold gdQ at h ⊢
 split at h
 ·exact ⟨fun e=>hp (h.1 e),fun e=>hq _ (h.2 e)⟩
 ·exact hq _ h
 ·exact h.elim
theorem pinV_lk {s:St} {t:Nat} {x:AV} (h:lk s.fr t=x) (u:Nat):lk (s.pinV t x).fr u=lk s.fr u:=by
 simp only [St.pinV,lk]
 split
 ·rename_i e; subst e; exact h.symm
 ·rfl
theorem pin_lk {s:St} {t:Nat} {b:Bool} (h:lk s.fr t=.bool b) (u:Nat):lk (s.pin t b).fr u=lk s.fr u:=by
 simp only [St.pin,lk]
 split
 ·rename_i e; subst e; exact h.symm
 ·rfl
def arun (Φ:Phi):List AOper→(St→Prop)→St→Prop
 | [],K,s=>K s
 | ⟨d,op,none⟩ :: r,K,s=>aq (astep Φ s op) s d (arun Φ r K)
 | ⟨d,op,some (t,b)⟩ :: r,K,s=>gdQ (lk s.fr t) b (aq (astep Φ s op) (s.pin t b) d (arun Φ r K)) (fun y=>arun Φ r K ((s.pinV t y).put d (.tup []) s.hp))
theorem arun_eq {Φ:Phi} {o:AOper} {r:List AOper} {K:St→Prop} {s:St}:arun Φ (o :: r) K s=match o.grd with
  | none=>aq (astep Φ s o.op) s o.dst (arun Φ r K)
  | some (t,b)=>gdQ (lk s.fr t) b (aq (astep Φ s o.op) (s.pin t b) o.dst (arun Φ r K)) (fun y=>arun Φ r K ((s.pinV t y).put o.dst (.tup []) s.hp)):=by
 obtain ⟨d,op,g⟩:=o
 cases g <;> rfl
def MtO (P:Program) (N:Nat) (ops:Array Oper) (o:Oper) (ao:AOper):Prop :=
 o.dst=ao.dst∧MtA P o.op ao.op∧(∀ t,o.dst=some t→t<N)∧match o.guard,ao.grd with
  | none,none=>True
  | some (g,b),some (t,b')=>b=b' ∧ (ops[g]?).bind (·.dst)=some t∧t<N
  | _,_=>False
def All2 {α β:Type} (R:α→β→Prop):List α→List β→Prop
 | [],[]=>True
 | a :: l,b :: m=>R a b∧All2 R l m
 | _,_=>False
section
variable {P : Program} {Φ : Phi} {F : Nat → Prop} {w0 w : World} {S0 S : Nat → Prop} {ρ0 ρ : Rho} {N : Nat} {ds : List Deferred} {s : St} {a : Act}
theorem wanted_of {ops:Array Oper} {o:Oper} {g t:Nat} {b c:Bool} (hg:o.guard=some (g,b)) (ht:(ops[g]?).bind (·.dst)=some t) (hl:t<a.tmps.size) (hv:a.tmps.getD t undef=.bool c):Region.wanted o (yielded ops a.tmps)=(c == b):=by
 have h1:a.tmps[t]?=some (.bool c):=by
  rw [Array.getElem?_eq_getElem hl]
  have:a.tmps.getD t undef=a.tmps[t]:=by simp [Array.getD,hl]
  rw [← this,hv]
 unfold Region.wanted yielded
 rw [hg]
 simp only [ht,Option.bind_some,h1]
 cases c <;> cases b <;> rfl
theorem Rel.skip {d:Option Nat} (R:Rel F w0 S0 ρ0 N ds s a w) (hd:∀ t,d=some t→t<N):Rel F w0 S0 ρ0 N ds (s.put d (.tup []) s.hp) (a.put d undef) w:=by
 obtain ⟨S,ρ,R⟩:=R
 exact ⟨S,ρ,R.next R.heap (Ext.refl _ _ _) (fun _ h=>.inl h) hd ⟨[],rfl,rfl,fun i h=>absurd h (Nat.not_lt_zero i)⟩⟩
theorem undef_of {v:Value} (h:Vl w S ρ (.tup []) v):v=undef:=by
 obtain ⟨vs,h1,h2,_⟩:=h
 obtain rfl:=List.eq_nil_of_length_eq_zero (by simpa using h2)
 exact h1
theorem wanted_no {ops:Array Oper} {o:Oper} {g t:Nat} {b:Bool} (hg:o.guard=some (g,b)) (ht:(ops[g]?).bind (·.dst)=some t) (hv:a.tmps.getD t undef=undef):Region.wanted o (yielded ops a.tmps)=false:=by
 unfold Region.wanted yielded
 rw [hg]
 simp only [ht,Option.bind_some]
 cases h:a.tmps[t]? with
 | none=>rfl
 | some v =>
  have:a.tmps.getD t undef=v:=by rw [← Array.getElem?_toList] at h; simp only [Array.getD_eq_getD_getElem?,← Array.getElem?_toList,h,Option.getD_some]
  rw [this] at hv
  subst hv
  rfl
theorem put_hp' (s:St) (d:Option Nat) (x:AV) (hp:List AObj):(s.put d x hp).hp=hp:=by cases d <;> rfl
theorem put_lk' (s:St) (d:Option Nat) (x:AV) (hp:List AObj) (t:Nat):lk (s.put d x hp).fr t=if d=some t then x else lk s.fr t:=by
 cases d with
 | none=>simp [St.put]
 | some u=>simp only [St.put,lk,Option.some.injEq]
theorem Rel.congr {s s' : St} (R:Rel F w0 S0 ρ0 N ds s a w) (h1:∀ t,lk s.fr t=lk s'.fr t) (h2:s.hp=s'.hp):Rel F w0 S0 ρ0 N ds s' a w:=by
 obtain ⟨S,ρ,R⟩:=R
 exact ⟨S,ρ,h2 ▸ R.heap,⟨R.fr.1,fun t=>h1 t ▸ R.fr.2 t⟩,R.size,R.dfr,R.sin,R.ext⟩
theorem arun_ok (hΦ:PhiOk P Φ) {ops:Array Oper} {Q:Exit→Act→World→Prop} {K:St→Prop} (hK:∀ s a w,K s→Rel F w0 S0 ρ0 N ds s a w→Q .normal a w):∀ (l:List Oper) (l' : List AOper) (s:St) (a:Act) (w:World),
  All2 (MtO P N ops) l l' → arun Φ l' K s→Rel F w0 S0 ρ0 N ds s a w→wpList P ops Q l a w:=by
 intro l
 induction l with
 | nil =>
  intro l' s a w hm h R
  cases l' with
  | nil=>exact hK s a w h R
  | cons _ _=>exact hm.elim
 | cons o l ih =>
  intro l' s a w hm h R
  cases l' with
  | nil=>exact hm.elim
  | cons o' l' =>
   obtain ⟨⟨hd,hop,hdN,hg⟩,hm⟩:=hm
   have exec:∀ s1,(∀ t,lk s1.fr t=lk s.fr t)→s1.hp=s.hp→(aq (astep Φ s o'.op) s1 o'.dst (arun Φ l' K))→o.wp P a w (wpList P ops Q l) Q:=by
    intro s1 hs1 hs2 h
    unfold aq at h
    split at h
    ·rename_i x hp p hs
     refine astep_ok hΦ R hop hs h.1 hdN fun a' w' R' => ?_
     rw [hd] at R'
     exact ih l' _ a' w' hm h.2 (R'.congr (fun t=>by rw [put_lk',put_lk',hs1]) (by rw [put_hp',put_hp']))
    ·exact h.elim
   unfold wpList
   rw [arun_eq] at h
   cases hgr:o.guard with
   | none =>
    rw [hgr] at hg
    cases hgr' : o'.grd with
    | none =>
     rw [hgr'] at h
     rw [if_pos (by simp [Region.wanted,hgr])]
     exact .inl (exec s (fun _=>rfl) rfl h)
    | some x=>rw [hgr'] at hg; exact hg.elim
   | some x =>
    obtain ⟨g,b⟩:=x
    rw [hgr] at hg
    cases hgr' : o'.grd with
    | none=>rw [hgr'] at hg; exact hg.elim
    | some x =>
     obtain ⟨t,b'⟩:=x
     rw [hgr'] at hg h
     obtain ⟨rfl,ht,htN⟩:=hg
     simp only at h
     rcases gdQ_ok h with ⟨c,hc,h⟩ | ⟨hc,h⟩
     ·obtain ⟨S,ρ,R0⟩:=R
      have hv:=R0.fr.2 t
      rw [hc] at hv
      rw [wanted_of hgr ht (by rw [R0.size]; exact htN) hv.bool]
      by_cases e:c=b
      ·subst e
       rw [if_pos (by simp)]
       exact .inl (exec _ (pin_lk hc) rfl (h.1 rfl))
      ·rw [if_neg (by simpa using e)]
       have R1:=Rel.skip (d:=o.dst) ⟨S,ρ,R0⟩ hdN
       rw [hd] at R1 ⊢
       have hcb:c=!b:=by cases c <;> cases b <;> simp_all
       exact ih l' _ _ w hm (h.2 hcb) (R1.congr (fun t=>by rw [put_lk',put_lk',pinV_lk (hcb ▸ hc)]) (by rw [put_hp',put_hp']))
     ·obtain ⟨S,ρ,R0⟩:=R
      have hv:=R0.fr.2 t
      rw [hc] at hv
      rw [wanted_no hgr ht (undef_of hv)]
      rw [if_neg (by simp)]
      have R1:=Rel.skip (d:=o.dst) ⟨S,ρ,R0⟩ hdN
      rw [hd] at R1 ⊢
      exact ih l' _ _ w hm h (R1.congr (fun t=>by rw [put_lk',put_lk',pinV_lk hc]) (by rw [put_hp',put_hp']))
theorem areg_ok (hΦ:PhiOk P Φ) {id:Nat} {ops:Array Oper} {l' : List AOper} {Q:Exit→Act→World→Prop} {K:St→Prop} (hm:All2 (MtO P N ops) ops.toList l') (h:arun Φ l' K s) (R:Rel F w0 S0 ρ0 N ds s a w)
  (hK:∀ s a w,K s→Rel F w0 S0 ρ0 N ds s a w→Q .normal a w):(Code.region id ops false).wp P Q a w :=
 wp_region_list (arun_ok hΦ hK _ _ s a w hm h R)
theorem HeapOk.restr (H:HeapOk F w0 S ρ s.hp w) {ids:List Nat} {hc:List AObj} (hnd:nodupB ids=true) (h3:lentO s.hp ids=some hc) :
  HeapOk F w0 S (fun i v=>match ids[i]? with | some k=>ρ k v | none=>none) hc w∧∀ i j,posOf ids i=some j→∀ v L,ρ i v=some L→(fun i v=>match ids[i]? with | some k=>ρ k v | none=>none:Rho) j v=some L:=by
 have hinj:=nodupB_ok hnd
 obtain ⟨g1,g2⟩:=mapO_get h3
 have hρc:∀ {i k:Nat},ids[i]?=some k→∀ v,(fun i v=>match ids[i]? with | some k=>ρ k v | none=>none:Rho) i v=ρ k v:=fun {i k} h v=>by simp only [h]
 have hσ:∀ i j,posOf ids i=some j→∀ v L,ρ i v=some L→(fun i v=>match ids[i]? with | some k=>ρ k v | none=>none:Rho) j v=some L:=fun i j hij v L h=>by rw [hρc (posOf_ok hij)]; exact h
 refine ⟨?_,hσ⟩
 have obj:∀ (i:Nat) (o:AObj),hc[i]?=some o→∃ k ok,ids[i]?=some k∧s.hp[k]?=some ok∧ObjOk w S (fun i v=>match ids[i]? with | some k=>ρ k v | none=>none) i o∧o.ver=ok.ver∧(∀ b,o.blk (fun i v=>match ids[i]? with | some k=>ρ k v | none=>none) i=some b→ok.blk ρ k=some b):=by
  intro i o ho
  have hi:i<ids.length:=by rw [← g1]; exact (List.getElem?_eq_some_iff.1 ho).1
  obtain ⟨o',ho',hr⟩:=g2 i _ (List.getElem?_eq_getElem hi)
  rw [ho] at ho'; injection ho' with ho'; subst ho'
  split at hr
  ·rename_i ok hok
   have hpos:posOf ids ids[i]=some i:=by
    cases hp:posOf ids ids[i] with
    | none=>exact absurd (List.getElem?_eq_getElem hi) (posOf_none hp i)
    | some j=>rw [hinj i j _ (List.getElem?_eq_getElem hi) (posOf_ok hp)]
   obtain ⟨k1,k2,k3⟩:=renObj_ok (S' := S) hσ hpos (fun v hv=>by simp only [List.getElem?_eq_getElem hi]; exact hv) hr (H.ob _ ok hok) (fun b _ h=>h) (.inl fun b h=>h)
   exact ⟨ids[i],ok,List.getElem?_eq_getElem hi,hok,k1,k2,k3⟩
  ·cases hr
 refine ⟨H.kept,fun i o ho=>?_,fun i j y z hij hy hz b hyb hzb=>?_,fun i o ho b hb=>?_,H.slt,fun i hi v=>?_,fun i o ho v hv=>?_⟩
 ·obtain ⟨k,ok,e1,e2,e4,e5,e6⟩:=obj i o ho; exact e4
 ·obtain ⟨k,ok,e1,e2,e4,e5,e6⟩:=obj i y hy
  obtain ⟨k',ok',d1,d2,d4,d5,d6⟩:=obj j z hz
  refine H.apart k k' ok ok' (fun e=>?_) e2 d2 b (e6 b hyb) (d6 b hzb)
  subst e; exact hij (hinj i j k e1 d1)
 ·obtain ⟨k,ok,e1,e2,e4,e5,e6⟩:=obj i o ho
  exact H.mine k ok e2 b (e6 b hb)
 ·have:ids[i]?=none:=List.getElem?_eq_none (by omega)
  simp only [this]
 ·obtain ⟨k,ok,e1,e2,e4,e5,e6⟩:=obj i o ho
  simp only [e1]; exact H.vers k ok e2 v (by rw [← e5]; exact hv)
def kp (slots:List Nat) (n:Nat) (s:St):Option St :=
 match mapO (fun t=>(ren (posOf (List.range n)) 4 (lk s.fr t)).map fun x=>(t,x)) slots,lentO s.hp (List.range n) with
 | some fr,some hp=>some ⟨fr,hp⟩
 | _,_=>none
theorem nodup_range (n:Nat):nodupB (List.range n)=true:=by
 have gen:∀ (l:List Nat),l.Nodup→nodupB l=true:=by
  intro l
  induction l with
  | nil=>intro _; rfl
  | cons x l ih=>intro h; rw [List.nodup_cons] at h; simp [nodupB,h.1,ih h.2]
 exact gen _ List.nodup_range
def kpI (slots ids:List Nat) (s:St):Option St :=
 match mapO (fun t=>(ren (posOf ids) 4 (lk s.fr t)).map fun x=>(t,x)) slots,lentO s.hp ids with
 | some fr,some hp=>some ⟨fr,hp⟩
 | _,_=>none
theorem kpI_ok {slots ids:List Nat} {s' : St} (R:Rel F w0 S0 ρ0 N ds s a w) (hnd:nodupB ids=true) (h0:∀ i v L,ρ0 i v=some L→ids[i]?=some i) (h:kpI slots ids s=some s'):Rel F w0 S0 ρ0 N ds s' a w:=by
 obtain ⟨S,ρ,R⟩:=R
 unfold kpI at h
 split at h
 ·rename_i fr hp hf hh
  injection h with h; subst h
  obtain ⟨H,hσ⟩:=R.heap.restr hnd hh
  refine ⟨S,_,H,⟨R.fr.1,fun t=>?_⟩,R.size,R.dfr,R.sin,R.ext.mem,R.ext.st,fun i v L hL=>?_⟩
  ·obtain ⟨m1,m2⟩:=mapO_get hf
   have:∀ (l:List Nat) (m:List (Nat × AV)),m.length=l.length→(∀ (i:Nat) (x:Nat),l[i]?=some x→∃ y,m[i]?=some y∧(ren (posOf ids) 4 (lk s.fr x)).map (fun z=>(x,z))=some y)→lk m t=.top∨ren (posOf ids) 4 (lk s.fr t)=some (lk m t):=by
    intro l
    induction l with
    | nil=>intro m hl _; obtain rfl:=List.eq_nil_of_length_eq_zero (by simpa using hl); exact .inl rfl
    | cons x l ih =>
     intro m hl hm
     cases m with
     | nil=>simp at hl
     | cons y m =>
      obtain ⟨y',hy,he⟩:=hm 0 x rfl
      simp only [List.getElem?_cons_zero,Option.some.injEq] at hy; subst hy
      obtain ⟨z,hz,rfl⟩:=Option.map_eq_some_iff.1 he
      by_cases e:x=t
      ·subst e; right; simp only [lk,if_true]; exact hz
      ·simp only [lk,if_neg e]
       exact ih m (by simpa using hl) (fun i x hx=>by simpa using hm (i+1) x (by simpa using hx))
   rcases this slots fr m1 m2 with h | h
   ·rw [h]; exact Vl.top _
   ·exact ren_vl hσ h (R.fr.2 t)
  ·have h1:=h0 i v L hL
   simp only [h1]
   exact R.ext.loc _ _ _ hL
 ·cases h
def nilG:List (Nat × TypeId × Nat)→St→Option St
 | [],s=>some s
 | (t,e,sz) :: r,s=>if t<4096 then (match lk s.fr t with
  | .con u=>if nilS u then nilG r ⟨(t,.own s.hp.length 0) :: s.fr,s.hp ++ [.row e sz 0 []]⟩ else none
  | _=>none) else match s.hp[(t - 4096) / 64]? with
   | some (.cells T ps)=>match ps[(t - 4096) % 64]? with
    | some (1,.con u)=>if nilS u then nilG r ⟨s.fr,s.hp.set ((t - 4096) / 64) (.cells T (ps.set ((t - 4096) % 64) (1,.own s.hp.length 0))) ++ [.row e sz 0 []]⟩ else none
    | _=>none
   | _=>none
theorem Rel.nil1 {t:Nat} {e:TypeId} {sz:Nat} {u:Value} (R:Rel F w0 S0 ρ0 N ds s a w) (h:lk s.fr t=.con u) (hn:nilS u=true):Rel F w0 S0 ρ0 N ds ⟨(t,.own s.hp.length 0) :: s.fr,s.hp ++ [.row e sz 0 []]⟩ a w:=by
 obtain ⟨S,ρ,R⟩:=R
 obtain ⟨H',hE⟩:=R.heap.push (w' := w) (S' := S) (ρ' := rset ρ s.hp.length 0 ⟨none,0,0,sz⟩) (o' := .row e sz 0 []) (Below.refl _ _) (fun _ h=>h) (fun _ h=>.inl h) (rset_mono (R.heap.new _ (Nat.le_refl _)) _) (fun i u hi=>rset_ne _ _ _ _ (fun e=>hi e.1))
  ⟨_,[],rset_self _ _ _ _,rfl,rfl,⟨by simp,.inl ⟨rfl,rfl,rfl⟩⟩,rfl,fun g hg=>by cases hg⟩
  (fun v hv=>by simp only [AObj.ver] at hv; rw [rset_ne _ _ _ _ (fun e=>by omega)]; exact R.heap.new _ (Nat.le_refl _) v) (fun b hb=>by simp only [AObj.blk,rset_self,Option.bind_some,ablk] at hb; cases hb)
 refine ⟨S,_,H',⟨R.fr.1.ext hE.mem hE.st,fun t' => ?_⟩,R.size,R.dfr,R.sin,R.ext.trans hE⟩
 simp only [lk]
 split
 ·rename_i e1; subst e1
  have hv:=R.fr.2 t
  rw [h] at hv
  rw [hv.con.trans (nilS_eq hn)]
  exact .inr ⟨_,.own _ _ _ (rset_self _ _ _ _),rfl⟩
 ·exact (R.fr.2 t').ext hE
theorem css_set1 {w:World} {S:Nat→Prop} {ρ:Rho} {x y:AV} {v:Value} (hy:Cs w S ρ y [v]) (hx:∀ us,Cs w S ρ x us→us=[v]):∀ (ps:List (Nat × AV)) (us:List Value) (k:Nat),Css w S ρ ps us→ps[k]?=some (1,x)→Css w S ρ (ps.set k (1,y)) us:=by
 intro ps
 induction ps with
 | nil=>intro us k _ h; simp at h
 | cons p ps ih =>
  intro us k h hk
  obtain ⟨s,z⟩:=p
  obtain ⟨u1,u2,rfl,h1,h2,h3⟩:=h
  cases k with
  | zero =>
   simp only [List.getElem?_cons_zero,Option.some.injEq,Prod.mk.injEq] at hk
   obtain ⟨rfl,rfl⟩:=hk
   obtain rfl:=hx u1 h2
   exact ⟨[v],u2,rfl,rfl,hy,h3⟩
  | succ k=>exact ⟨u1,u2,rfl,h1,h2,ih u2 k h3 (by simpa using hk)⟩
theorem Rel.nil2 {i k:Nat} {T e:TypeId} {sz:Nat} {u:Value} {ps:List (Nat × AV)} (R:Rel F w0 S0 ρ0 N ds s a w) (ho:s.hp[i]?=some (.cells T ps)) (hk:ps[k]?=some (1,.con u)) (hn:nilS u=true) :
  Rel F w0 S0 ρ0 N ds ⟨s.fr,s.hp.set i (.cells T (ps.set k (1,.own s.hp.length 0))) ++ [.row e sz 0 []]⟩ a w:=by
 obtain ⟨S,ρ,R⟩:=R
 have hil:i<s.hp.length:=(List.getElem?_eq_some_iff.1 ho).1
 obtain ⟨H',hE⟩:=R.heap.push (w' := w) (S' := S) (ρ' := rset ρ s.hp.length 0 ⟨none,0,0,sz⟩) (o' := .row e sz 0 []) (Below.refl _ _) (fun _ h=>h) (fun _ h=>.inl h) (rset_mono (R.heap.new _ (Nat.le_refl _)) _) (fun i u hi=>rset_ne _ _ _ _ (fun e=>hi e.1))
  ⟨_,[],rset_self _ _ _ _,rfl,rfl,⟨by simp,.inl ⟨rfl,rfl,rfl⟩⟩,rfl,fun g hg=>by cases hg⟩
  (fun v hv=>by simp only [AObj.ver] at hv; rw [rset_ne _ _ _ _ (fun e=>by omega)]; exact R.heap.new _ (Nat.le_refl _) v) (fun b hb=>by simp only [AObj.blk,rset_self,Option.bind_some,ablk] at hb; cases hb)
 have ho' : (s.hp ++ [AObj.row e sz 0 []])[i]?=some (.cells T ps):=by rw [List.getElem?_append_left hil]; exact ho
 obtain ⟨g,us,k1,k2,k3,k4⟩:=H'.ob _ _ ho'
 have hown:Cs w S (rset ρ s.hp.length 0 ⟨none,0,0,sz⟩) (.own s.hp.length 0) [.slice none 0 0]:=.own _ _ _ (rset_self _ _ _ _)
 have hc:=css_set1 hown (fun us h=>by cases h; rw [nilS_eq hn]) ps us k k3 hk
 obtain ⟨H2,hE2⟩:=H'.upd (w' := w) (S' := S) (ρ' := rset ρ s.hp.length 0 ⟨none,0,0,sz⟩) (o' := .cells T (ps.set k (1,.own s.hp.length 0))) ho' (World.grownBy.refl w _) (fun _ h=>h) (fun _ h=>.inl h) (fun _ _ _ h=>h) (fun _ _ _=>rfl)
  ⟨g,us,k1,k2,hc,k4⟩ (fun v hv=>H'.vers _ _ ho' v hv) (fun b hb=>.inl hb)
 have e1:(s.hp ++ [AObj.row e sz 0 []]).set i (.cells T (ps.set k (1,.own s.hp.length 0)))=s.hp.set i (.cells T (ps.set k (1,.own s.hp.length 0))) ++ [.row e sz 0 []]:=List.set_append_left _ _ hil
 rw [e1] at H2
 exact ⟨S,_,H2,R.fr.ext hE,R.size,R.dfr,R.sin,R.ext.trans hE⟩
theorem nilG_ok:∀ (l:List (Nat × TypeId × Nat)) {s s' : St},Rel F w0 S0 ρ0 N ds s a w→nilG l s=some s' → Rel F w0 S0 ρ0 N ds s' a w:=by
 intro l
 induction l with
 | nil=>intro s s' R h; injection h with h; subst h; exact R
 | cons p l ih =>
  intro s s' R h
  obtain ⟨t,e,sz⟩:=p
  simp only [nilG] at h
  split at h
  ·split at h
   ·rename_i u hu
    split at h
    ·rename_i hn; exact ih (R.nil1 hu hn) h
    ·cases h
   ·cases h
  ·split at h
   ·rename_i T ps ho
    split at h
    ·rename_i u hu
     split at h
     ·rename_i hn; exact ih (R.nil2 ho hu hn) h
     ·cases h
    ·cases h
   ·cases h
end
end Go.Proofs.YtakolikdebfkeaaDoor
namespace Go.Proofs.YtakolikdebfkeaaDoor
open Go.RowKit
def AOp.isH:AOp→Bool
 | .call _ _ | .callv _ _ | .app _ _ _ _ _ | .appS _ _ _ | .mark _ | .st _ _ _ | .new _ _ | .box _ _ _ | .buildSl _ _ _ | .mkSl _ _ _ _ _ _ | .bytes _ _ | .mkMap _ | .mput _ _ _ _=>true
 | _=>false
def Opd.rd:Opd→List Nat
 | .t n=>[n]
 | .c _=>[]
def AOp.rd:AOp→List Nat
 | .callP _ l=>l.flatMap Opd.rd
 | .mv x=>x.rd
 | .pick c a b=>c.rd ++ a.rd ++ b.rd
 | .bin _ x y=>x.rd ++ y.rd
 | .eqB _ x y=>x.rd ++ y.rd
 | .nilc _ _ x=>x.rd
 | .eqA _ _ x y=>x.rd ++ y.rd
 | .eqS _ _ x y=>x.rd ++ y.rd
 | .un _ x=>x.rd
 | .toInt _ x=>x.rd
 | .toStr x=>x.rd
 | .same x=>x.rd
 | .idxS x i=>x.rd ++ i.rd
 | .idxA _ _ x i=>x.rd ++ i.rd
 | .ia _ _ x i=>x.rd ++ i.rd
 | .iaA _ x i=>x.rd ++ i.rd
 | .fld _ _ x=>x.rd
 | .fa _ x=>x.rd
 | .ld _ x=>x.rd
 | .slS x lo hi=>x.rd ++ (lo.toList.flatMap Opd.rd) ++ (hi.toList.flatMap Opd.rd)
 | .sl _ x lo hi=>x.rd ++ (lo.toList.flatMap Opd.rd) ++ (hi.toList.flatMap Opd.rd)
 | .ext x _=>x.rd
 | .nck x=>x.rd
 | .len _ _ x=>x.rd
 | .mkfn _ a c=>a.flatMap Opd.rd ++ c.flatMap Opd.rd
 | .mkif _ x=>x.rd
 | .mm _ x y=>x.rd ++ y.rd
 | .build _ ps=>ps.flatMap fun p=>p.2.2.rd
 | .buildA _ ps=>ps.flatMap fun p=>p.2.rd
 | .new _ _=>[]
 | .box _ _ x=>x.rd
 | .buildSl _ _ ps=>ps.flatMap Opd.rd
 | .mkSl _ _ _ _ l c=>l.rd ++ c.rd
 | .bytes _ x=>x.rd
 | .app _ _ _ s x=>s.rd ++ x.rd
 | .appS _ s x=>s.rd ++ x.rd
 | .cpy _ d x=>d.rd ++ x.rd
 | .bad=>[]
 | .pan x=>x.rd
 | .s2a _ x=>x.rd
 | .slA _ x lo hi=>x.rd ++ (lo.toList.flatMap Opd.rd) ++ (hi.toList.flatMap Opd.rd)
 | .mkMap _=>[]
 | .mget _ _ _ m x=>m.rd ++ x.rd
 | .mput _ m x v=>m.rd ++ x.rd ++ v.rd
 | .mlen m=>m.rd
 | .tas _ x=>x.rd
 | .st _ a x=>a.rd ++ x.rd
 | .mark x=>x.rd
 | .call _ l=>l.flatMap Opd.rd
 | .callv g l=>g.rd ++ l.flatMap Opd.rd
def AOper.rd (o:AOper):List Nat:=o.op.rd ++ (match o.grd with | some (t,_)=>[t] | none=>[])
section
variable {Φ : Phi} {s s' : St}
theorem ev_congr {x:Opd} (h:∀ t∈x.rd,lk s.fr t=lk s'.fr t):s.ev x=s'.ev x:=by
 cases x with
 | t n=>exact h n (by simp [Opd.rd])
 | c x=>rfl
theorem evs_congr {l:List Opd} (h:∀ t∈l.flatMap Opd.rd,lk s.fr t=lk s'.fr t):l.map s.ev=l.map s'.ev :=
 List.map_congr_left fun x hx=>ev_congr fun t ht=>h t (List.mem_flatMap.2 ⟨x,hx,ht⟩)
theorem evo_congr {l:Option Opd} (h:∀ t∈l.toList.flatMap Opd.rd,lk s.fr t=lk s'.fr t):l.map s.ev=l.map s'.ev:=by
 cases l with
 | none=>rfl
 | some x=>simp only [Option.map_some]; rw [ev_congr fun t ht=>h t (by simpa using ht)]
theorem aBuild_congr:∀ (ps:List (Nat × Nat × Opd)) (zs:List (Nat × AV)),(∀ t∈ps.flatMap fun p=>p.2.2.rd,lk s.fr t=lk s'.fr t)→aBuild s zs ps=aBuild s' zs ps:=by
 intro ps
 induction ps with
 | nil=>intro zs _; rfl
 | cons p ps ih =>
  intro zs h
  obtain ⟨o,n,x⟩:=p
  have h1:s.ev x=s'.ev x:=ev_congr fun t ht=>h t (by simp [ht])
  have h2:∀ zs,aBuild s zs ps=aBuild s' zs ps:=fun zs=>ih zs fun t ht=>h t (by rw [List.flatMap_cons]; exact List.mem_append_right _ ht)
  simp only [aBuild,h1,h2]
theorem aBuildA_congr:∀ (ps:List (Nat × Opd)) (zs:List Value),(∀ t∈ps.flatMap fun p=>p.2.rd,lk s.fr t=lk s'.fr t)→aBuildA s zs ps=aBuildA s' zs ps:=by
 intro ps
 induction ps with
 | nil=>intro zs _; rfl
 | cons p ps ih =>
  intro zs h
  obtain ⟨i,x⟩:=p
  have h1:s.ev x=s'.ev x:=ev_congr fun t ht=>h t (by simp [ht])
  have h2:∀ zs,aBuildA s zs ps=aBuildA s' zs ps:=fun zs=>ih zs fun t ht=>h t (by rw [List.flatMap_cons]; exact List.mem_append_right _ ht)
  simp only [aBuildA,h1,h2]
theorem aElems_congr (sz:Nat):∀ (ps:List Opd),(∀ t∈ps.flatMap Opd.rd,lk s.fr t=lk s'.fr t)→aElems s sz ps=aElems s' sz ps:=by
 intro ps
 induction ps with
 | nil=>intro _; rfl
 | cons x ps ih =>
  intro h
  have h1:s.ev x=s'.ev x:=ev_congr fun t ht=>h t (by simp [ht])
  have h2:=ih fun t ht=>h t (by rw [List.flatMap_cons]; exact List.mem_append_right _ ht)
  simp only [aElems,h1,h2]
theorem aval_congr {op:AOp} (hp:s.hp=s'.hp) (h:∀ t∈op.rd,lk s.fr t=lk s'.fr t):aval s op=aval s' op:=by
 have e:=fun {x:Opd} (hx:∀ t∈x.rd,t∈op.rd)=>ev_congr (s:=s) (s' := s') (x:=x) fun t ht=>h t (hx t ht)
 cases op <;> simp only [aval]
 case mv x=>rw [e fun t ht=>ht]
 case pick c a b=>rw [e (x:=c) fun t ht=>by simp [AOp.rd,ht],e (x:=a) fun t ht=>by simp [AOp.rd,ht],e (x:=b) fun t ht=>by simp [AOp.rd,ht]]
 case bin o x y=>rw [e (x:=x) fun t ht=>by simp [AOp.rd,ht],e (x:=y) fun t ht=>by simp [AOp.rd,ht]]
 case nilc k o x=>rw [e (x:=x) fun t ht=>by simp [AOp.rd,ht]]
 case eqB o x y=>rw [e (x:=x) fun t ht=>by simp [AOp.rd,ht],e (x:=y) fun t ht=>by simp [AOp.rd,ht]]
 case eqA o n x y=>rw [e (x:=x) fun t ht=>by simp [AOp.rd,ht],e (x:=y) fun t ht=>by simp [AOp.rd,ht]]
 case eqS o n x y=>rw [e (x:=x) fun t ht=>by simp [AOp.rd,ht],e (x:=y) fun t ht=>by simp [AOp.rd,ht]]
 case un o x=>rw [e fun t ht=>ht]
 case toInt o x=>rw [e fun t ht=>ht]
 case toStr x=>rw [e fun t ht=>ht,hp]
 case same x=>rw [e fun t ht=>ht]
 case idxS x y=>rw [e (x:=x) fun t ht=>by simp [AOp.rd,ht],e (x:=y) fun t ht=>by simp [AOp.rd,ht]]
 case idxA n z x y=>rw [e (x:=x) fun t ht=>by simp [AOp.rd,ht],e (x:=y) fun t ht=>by simp [AOp.rd,ht]]
 case ia n z x y=>rw [e (x:=x) fun t ht=>by simp [AOp.rd,ht],e (x:=y) fun t ht=>by simp [AOp.rd,ht],hp]
 case iaA n x y=>rw [e (x:=x) fun t ht=>by simp [AOp.rd,ht],e (x:=y) fun t ht=>by simp [AOp.rd,ht]]
 case fld o rt x=>rw [e fun t ht=>ht]
 case fa o x=>rw [e fun t ht=>ht]
 case ld rt x=>rw [e fun t ht=>ht,hp]
 case slS x lo hi =>
  rw [e (x:=x) fun t ht=>by simp [AOp.rd,ht],evo_congr (l:=lo) fun t ht=>h t (by simp only [AOp.rd,List.mem_append]; exact .inl (.inr ht)),evo_congr (l:=hi) fun t ht=>h t (by simp only [AOp.rd,List.mem_append]; exact .inr ht)]
 case sl sz x lo hi =>
  rw [e (x:=x) fun t ht=>by simp [AOp.rd,ht],evo_congr (l:=lo) fun t ht=>h t (by simp only [AOp.rd,List.mem_append]; exact .inl (.inr ht)),evo_congr (l:=hi) fun t ht=>h t (by simp only [AOp.rd,List.mem_append]; exact .inr ht),hp]
 case ext x i=>rw [e fun t ht=>ht]
 case nck x=>rw [e fun t ht=>ht]
 case len n b x=>rw [e fun t ht=>ht,hp]
 case mkfn f a c=>rw [evs_congr (l:=a) fun t ht=>h t (by simp only [AOp.rd,List.mem_append]; exact .inl ht),evs_congr (l:=c) fun t ht=>h t (by simp only [AOp.rd,List.mem_append]; exact .inr ht)]
 case mkif t x=>rw [e fun t ht=>ht]
 case mm b x y=>rw [e (x:=x) fun t ht=>by simp [AOp.rd,ht],e (x:=y) fun t ht=>by simp [AOp.rd,ht]]
 case build zs ps=>rw [aBuild_congr ps zs h]
 case buildA zs ps=>rw [aBuildA_congr ps zs h]
 case s2a n x=>rw [e fun t ht=>ht]
 case slA n x lo hi =>
  rw [e (x:=x) fun t ht=>by simp [AOp.rd,ht],evo_congr (l:=lo) fun t ht=>h t (by simp only [AOp.rd,List.mem_append]; exact .inl (.inr ht)),evo_congr (l:=hi) fun t ht=>h t (by simp only [AOp.rd,List.mem_append]; exact .inr ht),hp]
 case mget ok ks z m x=>rw [e (x:=m) fun t ht=>by simp [AOp.rd,ht],e (x:=x) fun t ht=>by simp [AOp.rd,ht],hp]
 case mlen m=>rw [e fun t ht=>ht,hp]
 case tas t x=>rw [e fun t ht=>ht]
theorem anew_congr {op:AOp} (hp:s.hp=s'.hp) (h:∀ t∈op.rd,lk s.fr t=lk s'.fr t):anew s op=anew s' op:=by
 have e:=fun {x:Opd} (hx:∀ t∈x.rd,t∈op.rd)=>ev_congr (s:=s) (s' := s') (x:=x) fun t ht=>h t (hx t ht)
 cases op <;> simp only [anew]
 case box t sz x=>rw [e fun t ht=>ht]
 case buildSl t sz ps=>rw [aElems_congr sz ps h]
 case mkSl a b c d x y=>rw [e (x:=x) fun t ht=>by simp [AOp.rd,ht],e (x:=y) fun t ht=>by simp [AOp.rd,ht]]
 case bytes t x=>rw [e fun t ht=>ht]
 case app a b c x y=>rw [e (x:=x) fun t ht=>by simp [AOp.rd,ht],e (x:=y) fun t ht=>by simp [AOp.rd,ht],hp]
 case appS a x y=>rw [e (x:=x) fun t ht=>by simp [AOp.rd,ht],e (x:=y) fun t ht=>by simp [AOp.rd,ht]]
theorem aeff_congr {op:AOp} (hp:s.hp=s'.hp) (h:∀ t∈op.rd,lk s.fr t=lk s'.fr t):aeff s op=aeff s' op:=by
 have e:=fun {x:Opd} (hx:∀ t∈x.rd,t∈op.rd)=>ev_congr (s:=s) (s' := s') (x:=x) fun t ht=>h t (hx t ht)
 cases op <;> simp only [aeff]
 case app a b c x y=>rw [e (x:=x) fun t ht=>by simp [AOp.rd,ht],e (x:=y) fun t ht=>by simp [AOp.rd,ht],hp]
 case appS a x y=>rw [e (x:=x) fun t ht=>by simp [AOp.rd,ht],e (x:=y) fun t ht=>by simp [AOp.rd,ht],hp]
 case st rt x y=>rw [e (x:=x) fun t ht=>by simp [AOp.rd,ht],e (x:=y) fun t ht=>by simp [AOp.rd,ht],hp]
 case mark x=>rw [e fun t ht=>ht,hp]
 case mput ks m x v=>rw [e (x:=m) fun t ht=>by simp [AOp.rd,ht],e (x:=x) fun t ht=>by simp [AOp.rd,ht],e (x:=v) fun t ht=>by simp [AOp.rd,ht],hp]
theorem astep_congr {op:AOp} (hp:s.hp=s'.hp) (h:∀ t∈op.rd,lk s.fr t=lk s'.fr t):astep Φ s op=astep Φ s' op:=by
 have hV:∀ r,stV s r=stV s' r:=fun r=>by unfold stV; rw [hp]
 have hN:∀ r,stN s r=stN s' r:=fun r=>by unfold stN; rw [hp]
 have hE:∀ r,stE s r=stE s' r:=fun r=>by unfold stE; rw [hp]
 have hC:∀ r,stC s r=stC s' r:=fun r=>by unfold stC; rw [hp]
 cases op <;> simp only [astep]
 case call f l=>rw [hC,hp,evs_congr (l:=l) h]
 case callv g l=>rw [ev_congr (x:=g) fun t ht=>h t (by simp [AOp.rd,ht]),evs_congr (l:=l) fun t ht=>h t (by simp only [AOp.rd,List.mem_append]; exact .inr ht),hp]; simp only [hC]
 case app a b c x y=>rw [aeff_congr hp h,anew_congr hp h]; simp only [hE,hN]
 case appS a x y=>rw [aeff_congr hp h,anew_congr hp h]; simp only [hE,hN]
 case st=>rw [aeff_congr hp h,hE]
 case mark=>rw [aeff_congr hp h,hE]
 case mput=>rw [aeff_congr hp h,hE]
 case mkMap=>rw [anew_congr hp h,hN]
 case new=>rw [anew_congr hp h,hN]
 case box=>rw [anew_congr hp h,hN]
 case buildSl e sz ps =>
  rcases frzS_congr ps hp (fun t ht=>h t (by
   simp only [AOp.rd,List.mem_flatMap] at ht ⊢
   obtain ⟨x,hx,ht⟩:=ht
   exact ⟨x,hx,by cases x <;> exact ht⟩)) with ⟨e1,e2⟩ | ⟨z,z',e1,e2,e3,e4⟩
  ·rw [e1,e2]
  ·rw [e1,e2]
   simp only
   rw [anew_congr e3 (fun t ht=>e4 t (h t ht))]
   unfold stN; rw [e3]
 case mkSl=>rw [anew_congr hp h,hN]
 case bytes=>rw [anew_congr hp h,hN]
 all_goals rw [aval_congr hp h,hV]
end
end Go.Proofs.YtakolikdebfkeaaDoor
namespace Go.Proofs.YtakolikdebfkeaaDoor
open Go.RowKit
section
variable {P : Program} {Φ : Phi} {F : Nat → Prop} {w0 w : World} {S0 S : Nat → Prop} {ρ0 ρ : Rho} {N : Nat} {ds : List Deferred} {s : St} {a : Act}
theorem Rel.keep {fr:List (Nat × AV)} {hp:List AObj} (R:Rel F w0 S0 ρ0 N ds ⟨fr,hp⟩ a w):Rel F w0 S0 ρ0 N ds ⟨fr,hp ++ [.gone]⟩ a w:=by
 obtain ⟨S,ρ,R⟩:=R
 have hn:=fun v=>R.heap.new hp.length (Nat.le_refl _) v
 obtain ⟨H',_⟩:=R.heap.push (o' := .gone) (S' := S) (ρ' := ρ) (Below.refl _ w) (fun _ h=>h) (fun _ h=>.inl h) (fun _ _ _ h=>h) (fun _ _ _=>rfl) hn (fun v _=>hn v) (fun b h=>by cases h)
 exact ⟨S,ρ,H',R.fr,R.size,R.dfr,R.sin,R.ext⟩
theorem step_fill {o:Oper} {t:TypeId} {ps:List (Nat × AV)} {id:Nat} {K:Act→World→Prop} {Q:Exit→Act→World→Prop} (R:RelS F w0 S0 ρ0 N ds S ρ s a w) (hm:Mt2 P o.op (.new t ps)) (hid:s.hp[id]?=some .gone) (hd:∀ t,o.dst=some t→t<N)
  (hK:∀ a' w',Rel F w0 S0 ρ0 N ds (s.put o.dst (.ref id 0 0) (s.hp.set id (.cells t ps))) a' w' → K a' w'):o.wp P a w K Q:=by
 obtain ⟨v,w',hrun,hb,hver,h⟩:=anew_ok (s:=s) R.heap.obs R.heap.slt R.fr hm (show anew s (.new t ps)=some (fun id=>.ref id 0 0,.cells t ps,True) from rfl) trivial
 have hn:∀ u,ρ id u=none:=R.heap.ob id _ hid
 obtain ⟨L,h1,h2,h3⟩:=h id hn
 obtain ⟨H',hE⟩:=R.heap.upd (S' := S) (ρ' := rset ρ id 0 L) hid ⟨hb.os,hb.tape,hb.output,hb.size,fun b hb2 _=>hb.block b hb2⟩ (fun _ h=>h) (fun _ h=>.inl h) (rset_mono hn L) (fun i u hi=>rset_ne _ _ _ _ (fun e=>hi e.1)) h1
  (fun u hu=>by rw [rset_ne _ _ _ _ (fun e=>by have:=e.2; simp only [AObj.ver] at hu; omega)]; exact hn u) (fun b hb=>.inr (h3 b hb))
 unfold Oper.wp
 rw [hrun,Oper.upon_value]
 exact hK _ _ ⟨S,_,R.next H' hE (fun _ h=>.inl h) hd h2⟩
end
end Go.Proofs.YtakolikdebfkeaaDoor
namespace Go.Proofs.YtakolikdebfkeaaDoor
open Go.RowKit
abbrev Hid1:=List (Nat × Bool)
def preB:List AObj→List AObj→Prop
 | [],_=>True
 | a :: l,b :: m=>a=b∧preB l m
 | _ :: _,[]=>False
theorem preB_ok:∀ {l m:List AObj},preB l m→∃ t,m=l ++ t:=by
 intro l
 induction l with
 | nil=>intro m _; exact ⟨m,rfl⟩
 | cons a l ih =>
  intro m h
  cases m with
  | nil=>exact h.elim
  | cons b m=>obtain ⟨rfl,h⟩:=h; obtain ⟨t,rfl⟩:=ih h; exact ⟨t,rfl⟩
def keepN (n:Nat) (lens:List Nat) (hp:List AObj):List AObj:=if n<lens.length then hp else hp.take (lens.getD 0 0)
def pureR:Option (AV × List Nat × List AObj × Prop)→Option (AV × Prop)
 | some (x,[],[],p)=>some (x,p)
 | _=>none
def avalP (Φ:Phi) (s:St):AOp→Option (AV × Prop)
 | .callP f args=>pureR (acall0 [] 0 (args.map s.ev) (Φ f))
 | op=>aval s op
theorem callP_or (op:AOp):(∃ f args,op=.callP f args)∨((∀ (Φ:Phi) (s:St),avalP Φ s op=aval s op)∧∀ f args,op≠.callP f args):=by
 cases op
 case callP f args=>exact .inl ⟨f,args,rfl⟩
 all_goals exact .inr ⟨fun _ _=>rfl,fun _ _ h=>by cases h⟩
theorem avalP_congr {Φ:Phi} {s s' : St} {op:AOp} (hp:s.hp=s'.hp) (h:∀ t∈op.rd,lk s.fr t=lk s'.fr t):avalP Φ s op=avalP Φ s' op:=by
 cases op
 case callP f l=>simp only [avalP]; rw [evs_congr (l:=l) h]
 all_goals exact aval_congr hp h
def exD (Φ:Phi) (h:Nat × Bool) (o:AOper) (lens:List Nat) (s:St):Option (AV × List AObj × Prop) :=
 if o.op.isH then match astep Φ s o.op with
  | some (x,hp,p)=>if h.2 then some (x,hp,p) else some (x,hp,p∧preB (keepN h.1 lens s.hp) hp)
  | none=>none
 else match avalP Φ ⟨s.fr,s.hp.take (lens.getD h.1 0)⟩ o.op with
  | some (x,p)=>some (x,s.hp,p)
  | none=>none
def pinO (o:AOper) (s:St):St :=
 match o.grd with
 | some (t,_)=>⟨(t,lk s.fr t) :: s.fr,s.hp⟩
 | none=>s
theorem pinO_lk {o:AOper} {s:St} (u:Nat):lk (pinO o s).fr u=lk s.fr u:=by
 unfold pinO
 split
 ·simp only [lk]
  split
  ·rename_i e; subst e; rfl
  ·rfl
 ·rfl
def arunD (Φ:Phi):Hid1→List AOper→List Nat→(St→Prop)→St→Prop
 | _,[],_,K,s=>K s
 | h :: hs,⟨d,op,none⟩ :: r,lens,K,s=>aq (exD Φ h ⟨d,op,none⟩ (lens ++ [s.hp.length]) s) s d (arunD Φ hs r (lens ++ [s.hp.length]) K)
 | h :: hs,⟨d,op,some (t,b)⟩ :: r,lens,K,s =>
  gdQ (lk s.fr t) b (aq (exD Φ h ⟨d,op,some (t,b)⟩ (lens ++ [s.hp.length]) s) (s.pin t b) d (arunD Φ hs r (lens ++ [s.hp.length]) K)) (fun y=>arunD Φ hs r (lens ++ [s.hp.length]) K ((s.pinV t y).put d (.tup []) s.hp))
 | [],_ :: _,_,_,_=>False
theorem arunD_eq {Φ:Phi} {h:Nat × Bool} {hs:Hid1} {o:AOper} {r:List AOper} {lens:List Nat} {K:St→Prop} {s:St}:arunD Φ (h :: hs) (o :: r) lens K s=match o.grd with
  | none=>aq (exD Φ h o (lens ++ [s.hp.length]) s) s o.dst (arunD Φ hs r (lens ++ [s.hp.length]) K)
  | some (t,b)=>gdQ (lk s.fr t) b (aq (exD Φ h o (lens ++ [s.hp.length]) s) (s.pin t b) o.dst (arunD Φ hs r (lens ++ [s.hp.length]) K)) (fun y=>arunD Φ hs r (lens ++ [s.hp.length]) K ((s.pinV t y).put o.dst (.tup []) s.hp)):=by
 obtain ⟨d,op,g⟩:=o
 cases g <;> rfl
def drawQ (Φ:Phi) (hid:Hid1) (l:List AOper) (K:St→Prop) (s:St):Prop:=arunD Φ hid l [] K s
def esO (o:Oper):List Nat:=o.after.toList.filterMap fun e=>if Region.binds .any e then some e.on else none
def maskOf (acc:List Nat):List Nat→Nat
 | []=>0
 | k :: r=>(2 ^ k ||| acc.getD k 0) ||| maskOf acc r
theorem maskOf_bit {acc:List Nat} {k:Nat}:∀ {l:List Nat},(maskOf acc l).testBit k=true→k∈l∨∃ m,m∈l∧(acc.getD m 0).testBit k=true:=by
 intro l
 induction l with
 | nil=>intro h; simp [maskOf] at h
 | cons m l ih =>
  intro h
  simp only [maskOf,Nat.testBit_or,Nat.testBit_two_pow,Bool.or_eq_true,decide_eq_true_eq] at h
  rcases h with (h | h) | h
  ·exact .inl (by rw [h]; exact List.mem_cons_self ..)
  ·exact .inr ⟨m,List.mem_cons_self ..,h⟩
  ·rcases ih h with h | ⟨m',h1,h2⟩
   ·exact .inl (List.mem_cons_of_mem _ h)
   ·exact .inr ⟨m',List.mem_cons_of_mem _ h1,h2⟩
def ancGo:List Oper→List Nat→List Nat
 | [],acc=>acc
 | o :: r,acc=>ancGo r (acc ++ [maskOf acc (esO o)])
def ltAll (n:Nat) (p:Nat→Bool):Bool:=(List.range n).all p
def dflO:AOper:=⟨none,.mv (.c .top),none⟩
def AOper.isNew:AOper→Bool
 | ⟨_,.new _ _,none⟩=>true
 | _=>false
def AOp.hf:AOp→Bool
 | .mv _ | .pick _ _ _ | .bin _ _ _ | .eqB _ _ _ | .nilc _ _ _ | .eqA _ _ _ _ | .eqS _ _ _ _ | .un _ _ | .toInt _ _ | .same _ | .idxS _ _ | .idxA _ _ _ _ | .iaA _ _ _ | .fld _ _ _ | .fa _ _ | .slS _ _ _ | .ext _ _ | .mkif _ _ | .mm _ _ _ | .callP _ _ | .s2a _ _ | .tas _ _=>true
 | _=>false
theorem avalP_hf {Φ:Phi} {op:AOp} {fr:List (Nat × AV)} (h:op.hf=true) (X Y:List AObj):avalP Φ ⟨fr,X⟩ op=avalP Φ ⟨fr,Y⟩ op:=by
 cases op <;> first | rfl | cases h
def AOp.eff:AOp→Bool
 | .st _ _ _ | .app _ _ _ _ _ | .appS _ _ _ | .mark _ | .mput _ _ _ _=>true
 | _=>false
def hfL (l:List AOper) (k:Nat):Bool:=(l.getD k dflO).op.hf
def strictB (ops:Array Oper) (l:List AOper):Bool :=
 let A:=ancGo ops.toList []
 ltAll ops.size fun i=>ltAll i fun k=>!(((l[i]?).map (·.op.isH)).getD false && ((l[k]?).map (·.op.isH)).getD false) || (A.getD i 0).testBit k
def fxL (ops:Array Oper) (l:List AOper) (k:Nat):Bool:=(l.getD k dflO).isNew && !strictB ops l
def drawB (ops:Array Oper) (hid:Hid1) (l:List AOper):Bool :=
 let A:=ancGo ops.toList []
 let n:=ops.size
 let dst:=fun k=>(l[k]?).bind (·.dst)
 let isH:=fun k=>((l[k]?).map (·.op.isH)).getD false
 l.length == n && hid.length == n &&
 (ltAll n fun i=>((ops[i]?).map esO).getD [] |>.all fun k=>decide (k<i)) &&
 (ltAll n fun i=>ltAll n fun j=>i == j || (dst i).isNone || dst i != dst j) &&
 (ltAll n fun i=>(((l[i]?).map AOper.rd).getD []).all fun t=>ltAll n fun k=>k == i || dst k != some t || (if k<i then (A.getD i 0).testBit k else (A.getD k 0).testBit i)) &&
 (ltAll n fun i=>ltAll i fun k=>!(isH i && isH k) || (A.getD i 0).testBit k || (fxL ops l i && fxL ops l k)) &&
 (ltAll n fun i=>!isH i || fxL ops l i || (ltAll n fun k=>!fxL ops l k || (decide (k<i) && (A.getD i 0).testBit k))) &&
 (ltAll n fun i=>!(hid.getD i (0,false)).2 || ((ltAll i fun k=>hfL l k || (A.getD i 0).testBit k) && (ltAll n fun k=>decide (k≤i) || (hfL l k || (A.getD k 0).testBit i)))) &&
 (ltAll n fun i=>isH i || hfL l i || (ltAll n fun k=>!isH k || decide ((hid.getD k (0,false)).1≤k) || decide (k<(hid.getD i (0,false)).1) || decide ((hid.getD i (0,false)).1=0) || (decide (i<k) && (A.getD k 0).testBit i))) &&
 (ltAll n fun i=>isH i || decide ((hid.getD i (0,false)).1≤i) && (ltAll (hid.getD i (0,false)).1 fun k=>!isH k || (A.getD i 0).testBit k) && (hfL l i || ltAll i fun k=>decide (k<(hid.getD i (0,false)).1) || !isH k || !(hid.getD k (0,false)).2))
def drawOk (P:Program) (ops:Array Oper) (hid:Hid1) (l:List AOper):Prop:=P.follows .mixedOrders=true∧drawB ops hid l=true
def hidOf (c:Bool) (ops:Array Oper) (l:List AOper):Hid1 :=
 let A:=ancGo ops.toList []
 let n:=ops.size
 let mk:=fun (hf:Nat→Bool)=>(List.range n).map fun i =>
  ((((List.range i).find? fun k=>((l[k]?).map (·.op.isH)).getD false && !(A.getD i 0).testBit k).getD i),
   (ltAll i fun k=>hf k || (A.getD i 0).testBit k) && (ltAll n fun k=>decide (k≤i) || (hf k || (A.getD k 0).testBit i)))
 let h0:=mk fun _=>false
 if ltAll n fun i=>!(((l[i]?).map (·.op.eff)).getD false || (c && ((l[i]?).map (·.op.isH)).getD false)) || (h0.getD i (0,false)).2 then h0 else
 let h1:=mk (hfL l)
 let rlx:=fun k=>((l[k]?).map (·.op.eff)).getD false && !(h1.getD k (0,false)).2
 (List.range n).map fun i =>
  if rlx i then (i+1,false) else
  if ((l[i]?).map (·.op.isH)).getD false || hfL l i then h1.getD i (0,false) else
  if (List.range n).any fun k=>rlx k && decide ((h1.getD i (0,false)).1≤k) && !(decide (i<k) && (A.getD k 0).testBit i) then (0,(h1.getD i (0,false)).2) else h1.getD i (0,false)
def drawHid (c:Bool) (P:Program) (ops:Array Oper) (l:List AOper):Option Hid1:=if P.follows .mixedOrders=true∧drawB ops (hidOf c ops l) l=true then some (hidOf c ops l) else none
theorem drawHid_ok {c:Bool} {P:Program} {ops:Array Oper} {l:List AOper} {hid:Hid1} (h:drawHid c P ops l=some hid):drawOk P ops hid l:=by
 unfold drawHid at h
 split at h
 ·rename_i e; injection h with h; subst h; exact e
 ·cases h
theorem ltAll_ok {n:Nat} {p:Nat→Bool} (h:ltAll n p=true):∀ i,i<n→p i=true:=by
 intro i hi
 exact List.all_eq_true.1 h i (List.mem_range.2 hi)
def ClosedD (ops:Array Oper) (D:Nat→Bool):Prop:=∀ (k:Nat) (o:Oper),D k=true→ops[k]?=some o→∀ e∈esO o,D e=true
theorem ancGo_ok {ops:Array Oper} {D:Nat→Bool} (hD:ClosedD ops D):∀ (r:List Oper) (acc:List Nat),r=ops.toList.drop acc.length→acc.length≤ops.size →
  (∀ (j:Nat) (o:Oper),ops[j]?=some o→j<acc.length→(∀ e∈esO o,D e=true)→∀ k,(acc.getD j 0).testBit k=true→D k=true) →
  ∀ (j:Nat) (o:Oper),ops[j]?=some o→(∀ e∈esO o,D e=true)→∀ k,((ancGo r acc).getD j 0).testBit k=true→D k=true:=by
 intro r
 induction r with
 | nil =>
  intro acc hr hl hP j o ho he k hk
  have hsz:ops.size≤acc.length:=by
   have:=congrArg List.length hr
   simp at this; omega
  exact hP j o ho (Nat.lt_of_lt_of_le (Array.getElem?_eq_some_iff.1 ho).1 hsz) he k hk
 | cons q r ih =>
  intro acc hr hl hP
  have hlt:acc.length<ops.size:=by
   have:=congrArg List.length hr
   simp at this; omega
  have hq:ops[acc.length]?=some q:=by
   have:=congrArg List.head? hr
   simp only [List.head?_cons,List.head?_drop] at this
   rw [← Array.getElem?_toList]; exact this.symm
  refine ih _ ?_ (by simp; omega) ?_
  ·have:=congrArg List.tail hr
   simp only [List.tail_cons,List.tail_drop] at this
   rw [this,List.length_append,List.length_singleton]
  ·intro j o ho hj he k hk
   rcases Nat.lt_or_ge j acc.length with h1 | h1
   ·rw [List.getD_eq_getElem?_getD,List.getElem?_append_left h1,← List.getD_eq_getElem?_getD] at hk
    exact hP j o ho h1 he k hk
   ·have hje:j=acc.length:=by simp at hj; omega
    subst hje
    rw [hq] at ho; injection ho with ho; subst ho
    rw [List.getD_eq_getElem?_getD,List.getElem?_append_right (Nat.le_refl _)] at hk
    simp only [Nat.sub_self,List.getElem?_cons_zero,Option.getD_some] at hk
    rcases maskOf_bit hk with hk | ⟨m,hm,hk⟩
    ·exact he k hk
    ·have hDm:=he m hm
     rcases Nat.lt_or_ge m acc.length with h2 | h2
     ·obtain ⟨o',ho'⟩:∃ o',ops[m]?=some o' := ⟨_,Array.getElem?_eq_getElem (by omega)⟩
      exact hP m o' ho' h2 (hD m o' hDm ho') k hk
     ·rw [List.getD_eq_getElem?_getD,List.getElem?_eq_none h2] at hk; simp at hk
theorem anc_ok {ops:Array Oper} {D:Nat→Bool} (hD:ClosedD ops D) {j:Nat} {o:Oper} (ho:ops[j]?=some o) (he:∀ e∈esO o,D e=true) {k:Nat} (hk:((ancGo ops.toList []).getD j 0).testBit k=true):D k=true :=
 ancGo_ok hD ops.toList [] rfl (Nat.zero_le _) (fun j o _ hj=>by simp at hj) j o ho he k hk
section
variable (Φ : Phi) (hid : Hid1) (l : List AOper) (s0 : St)
def resD (h:Nat × Bool) (o:AOper) (lens:List Nat) (s:St):Option (AV × List AObj × Prop) :=
 match o.grd with
 | none=>exD Φ h o lens s
 | some (t,b)=>match lk s.fr t with
  | .bool c=>if c=b then exD Φ h o lens s else some (.tup [],s.hp,True)
  | .tup []=>some (.tup [],s.hp,True)
  | _=>none
def stI:Nat→St × List Nat
 | 0=>(s0,[])
 | i+1=>match resD Φ (hid.getD i (0,false)) (l.getD i dflO) ((stI i).2 ++ [(stI i).1.hp.length]) (stI i).1 with
  | some (x,hp,_)=>((pinO (l.getD i dflO) (stI i).1).put (l.getD i dflO).dst x hp,(stI i).2 ++ [(stI i).1.hp.length])
  | none=>((stI i).1,(stI i).2 ++ [(stI i).1.hp.length])
theorem stI_lens:∀ i,(stI Φ hid l s0 i).2.length=i∧∀ k,k<i→(stI Φ hid l s0 i).2.getD k 0=(stI Φ hid l s0 k).1.hp.length:=by
 intro i
 induction i with
 | zero=>exact ⟨rfl,fun k hk=>by omega⟩
 | succ i ih =>
  have e:(stI Φ hid l s0 (i+1)).2=(stI Φ hid l s0 i).2 ++ [(stI Φ hid l s0 i).1.hp.length]:=by
   simp only [stI]; split <;> rfl
  rw [e]
  refine ⟨by simp [ih.1],fun k hk=>?_⟩
  rcases Nat.lt_or_ge k i with h | h
  ·rw [List.getD_eq_getElem?_getD,List.getElem?_append_left (by rw [ih.1]; exact h),← List.getD_eq_getElem?_getD]; exact ih.2 k h
  ·have:k=i:=by omega
   subst this
   rw [List.getD_eq_getElem?_getD,List.getElem?_append_right (by rw [ih.1]; exact Nat.le_refl _),ih.1]; simp
theorem arunD_run {K:St→Prop} (hl:hid.length=l.length):∀ (d i:Nat),i+d=l.length→arunD Φ (hid.drop i) (l.drop i) (stI Φ hid l s0 i).2 K (stI Φ hid l s0 i).1 →
  (∀ k,i≤k→k<l.length→∃ x hp p,resD Φ (hid.getD k (0,false)) (l.getD k dflO) ((stI Φ hid l s0 k).2 ++ [(stI Φ hid l s0 k).1.hp.length]) (stI Φ hid l s0 k).1=some (x,hp,p)∧p)∧K (stI Φ hid l s0 l.length).1:=by
 intro d
 induction d with
 | zero =>
  intro i hi h
  have:i=l.length:=by omega
  subst this
  rw [List.drop_length] at h
  cases hh:hid.drop l.length <;> (rw [hh] at h; exact ⟨fun k h1 h2=>by omega,h⟩)
 | succ d ih =>
  intro i hi h
  have hil:i<l.length:=by omega
  rw [List.drop_eq_getElem_cons (by omega:i<hid.length),List.drop_eq_getElem_cons hil] at h
  have e1:hid.getD i (0,false)=hid[i]'(by omega):=by rw [List.getD_eq_getElem?_getD,List.getElem?_eq_getElem (by omega)]; rfl
  have e2:l.getD i dflO=l[i]:=by rw [List.getD_eq_getElem?_getD,List.getElem?_eq_getElem hil]; rfl
  rw [← e1,← e2] at h
  have fin:∀ x hp p,resD Φ (hid.getD i (0,false)) (l.getD i dflO) ((stI Φ hid l s0 i).2 ++ [(stI Φ hid l s0 i).1.hp.length]) (stI Φ hid l s0 i).1=some (x,hp,p)→p →
    arunD Φ (hid.drop (i+1)) (l.drop (i+1)) ((stI Φ hid l s0 i).2 ++ [(stI Φ hid l s0 i).1.hp.length]) K ((pinO (l.getD i dflO) (stI Φ hid l s0 i).1).put (l.getD i dflO).dst x hp) →
    (∀ k,i≤k→k<l.length→∃ x hp p,resD Φ (hid.getD k (0,false)) (l.getD k dflO) ((stI Φ hid l s0 k).2 ++ [(stI Φ hid l s0 k).1.hp.length]) (stI Φ hid l s0 k).1=some (x,hp,p)∧p)∧K (stI Φ hid l s0 l.length).1:=by
   intro x hp p hr hp' hk
   have e3:stI Φ hid l s0 (i+1)=((pinO (l.getD i dflO) (stI Φ hid l s0 i).1).put (l.getD i dflO).dst x hp,(stI Φ hid l s0 i).2 ++ [(stI Φ hid l s0 i).1.hp.length]):=by simp only [stI,hr]
   have:=ih (i+1) (by omega) (by rw [e3]; exact hk)
   refine ⟨fun k h1 h2=>?_,this.2⟩
   rcases Nat.lt_or_ge i k with h3 | h3
   ·exact this.1 k h3 h2
   ·have:k=i:=by omega
    subst this; exact ⟨x,hp,p,hr,hp'⟩
  have ex:∀ {r:Option (AV × List AObj × Prop)},(r=exD Φ (hid.getD i (0,false)) (l.getD i dflO) ((stI Φ hid l s0 i).2 ++ [(stI Φ hid l s0 i).1.hp.length]) (stI Φ hid l s0 i).1)→resD Φ (hid.getD i (0,false)) (l.getD i dflO) ((stI Φ hid l s0 i).2 ++ [(stI Φ hid l s0 i).1.hp.length]) (stI Φ hid l s0 i).1=r →
    aq r (pinO (l.getD i dflO) (stI Φ hid l s0 i).1) (l.getD i dflO).dst (arunD Φ (hid.drop (i+1)) (l.drop (i+1)) ((stI Φ hid l s0 i).2 ++ [(stI Φ hid l s0 i).1.hp.length]) K) →
    (∀ k,i≤k→k<l.length→∃ x hp p,resD Φ (hid.getD k (0,false)) (l.getD k dflO) ((stI Φ hid l s0 k).2 ++ [(stI Φ hid l s0 k).1.hp.length]) (stI Φ hid l s0 k).1=some (x,hp,p)∧p)∧K (stI Φ hid l s0 l.length).1:=by
   intro r _ hr h
   cases r with
   | none=>exact h.elim
   | some r=>obtain ⟨x,hp,p⟩:=r; exact fin x hp p hr h.1 h.2
  rw [arunD_eq] at h
  cases hg:(l.getD i dflO).grd with
  | none =>
   rw [hg] at h
   have hpin:pinO (l.getD i dflO) (stI Φ hid l s0 i).1=(stI Φ hid l s0 i).1:=by unfold pinO; rw [hg]
   exact ex rfl (by unfold resD; rw [hg]) (by rw [hpin]; exact h)
  | some tb =>
   obtain ⟨t,b⟩:=tb
   rw [hg] at h
   rcases gdQ_ok h with ⟨c,hc,h⟩ | ⟨hc,h⟩
   rotate_left
   ·have e:pinO (l.getD i dflO) (stI Φ hid l s0 i).1=(stI Φ hid l s0 i).1.pinV t (.tup []):=by
     unfold pinO St.pinV; rw [hg]; simp only [hc]
    exact fin (.tup []) _ True (by unfold resD; rw [hg]; simp only [hc]; rfl) trivial (by rw [e]; exact h)
   have hpin:∀ b',c=b' → (stI Φ hid l s0 i).1.pin t b' = pinO (l.getD i dflO) (stI Φ hid l s0 i).1:=by
    intro b' e; subst e; unfold pinO St.pin; rw [hg]; simp only [hc]
   by_cases e:c=b
   ·exact ex rfl (by unfold resD; rw [hg]; simp only [hc]; rw [if_pos e]) (by rw [← hpin b e]; exact h.1 e)
   ·have e' : c=!b:=by cases c <;> cases b <;> simp_all
    exact fin (.tup []) _ True (by unfold resD; rw [hg]; simp only [hc]; rw [if_neg e]) trivial (by rw [← hpin _ e']; exact h.2 e')
end
end Go.Proofs.YtakolikdebfkeaaDoor
namespace Go.Proofs.YtakolikdebfkeaaDoor
open Go.RowKit
def slotD (X:Nat→AV) (dst:Nat→Option Nat) (base:Nat→AV) (D:Nat→Bool):Nat→Nat→AV
 | 0,t=>base t
 | n+1,t=>if D n=true∧dst n=some t then X n else slotD X dst base D n t
def frD (X:Nat→AV) (dst:Nat→Option Nat) (base:List (Nat × AV)) (D:Nat→Bool):Nat→List (Nat × AV)
 | 0=>base
 | n+1=>if D n=true then match dst n with
  | some t=>(t,X n) :: frD X dst base D n
  | none=>frD X dst base D n else frD X dst base D n
def hposD (isH:Nat→Bool) (D:Nat→Bool):Nat→Nat
 | 0=>0
 | n+1=>if D n=true∧isH n=true then n+1 else hposD isH D n
section
variable {X : Nat → AV} {dst : Nat → Option Nat} {D : Nat → Bool}
theorem frD_lk {base:List (Nat × AV)}:∀ (n t:Nat),lk (frD X dst base D n) t=slotD X dst (lk base) D n t:=by
 intro n
 induction n with
 | zero=>intro t; rfl
 | succ n ih =>
  intro t
  simp only [frD,slotD]
  cases hD:D n with
  | false=>simp [ih]
  | true =>
   simp only [if_true,true_and]
   cases hd:dst n with
   | none=>simp [ih]
   | some u=>simp only [lk,Option.some.injEq,ih]
theorem slotD_in {base:Nat→AV} {n t k:Nat} (hu:∀ i j,i<n→j<n→dst i=some t→dst j=some t→i=j) (hk:k<n) (hD:D k=true) (hd:dst k=some t):slotD X dst base D n t=X k:=by
 induction n with
 | zero=>omega
 | succ n ih =>
  simp only [slotD]
  by_cases h:D n=true∧dst n=some t
  ·rw [if_pos h,hu n k (by omega) hk h.2 hd]
  ·rw [if_neg h]
   have:k≠n:=by rintro rfl; exact h ⟨hD,hd⟩
   exact ih (fun i j hi hj=>hu i j (by omega) (by omega)) (by omega)
theorem slotD_out {base:Nat→AV} {n t:Nat} (h:∀ k,k<n→D k=true→dst k≠some t):slotD X dst base D n t=base t:=by
 induction n with
 | zero=>rfl
 | succ n ih =>
  simp only [slotD]
  rw [if_neg (fun hh=>h n (by omega) hh.1 hh.2)]
  exact ih fun k hk=>h k (by omega)
theorem slotD_put {base:Nat→AV} {n i:Nat} (hi:i<n) (hu:∀ a b t,a<n→b<n→dst a=some t→dst b=some t→a=b) (hD:D i=false) (t:Nat) :
  slotD X dst base (fun k=>if k=i then true else D k) n t=if dst i=some t then X i else slotD X dst base D n t:=by
 by_cases h:dst i=some t
 ·rw [if_pos h]
  exact slotD_in (fun a b ha hb=>hu a b t ha hb) hi (by simp) h
 ·rw [if_neg h]
  have gen:∀ m,slotD X dst base (fun k=>if k=i then true else D k) m t=slotD X dst base D m t:=by
   intro m
   induction m with
   | zero=>rfl
   | succ m ih =>
    simp only [slotD,ih]
    by_cases e:m=i
    ·subst e; rw [if_neg (fun hh=>h hh.2),if_neg (fun hh=>h hh.2)]
    ·simp only [if_neg e]
  exact gen n
theorem hposD_le {isH:Nat→Bool}:∀ n,hposD isH D n≤n:=by
 intro n
 induction n with
 | zero=>exact Nat.le_refl _
 | succ n ih=>simp only [hposD]; split <;> omega
theorem hposD_gt {isH:Nat→Bool}:∀ {n k:Nat},k<n→D k=true→isH k=true→k<hposD isH D n:=by
 intro n
 induction n with
 | zero=>intro k h; omega
 | succ n ih =>
  intro k hk hD hH
  simp only [hposD]
  split
  ·omega
  ·rename_i h
   have:k≠n:=by rintro rfl; exact h ⟨hD,hH⟩
   exact ih (by omega) hD hH
theorem hposD_last {isH:Nat→Bool}:∀ {n:Nat},hposD isH D n=0∨∃ m,m<n∧hposD isH D n=m+1∧D m=true∧isH m=true:=by
 intro n
 induction n with
 | zero=>exact .inl rfl
 | succ n ih =>
  simp only [hposD]
  split
  ·rename_i h; exact .inr ⟨n,by omega,rfl,h.1,h.2⟩
  ·rcases ih with h | ⟨m,h1,h2⟩
   ·exact .inl h
   ·exact .inr ⟨m,by omega,h2⟩
end
section
variable {P : Program} {Φ : Phi} {F : Nat → Prop} {w0 w : World} {S0 S : Nat → Prop} {ρ0 ρ : Rho} {N : Nat} {ds : List Deferred} {s0 : St} {a : Act} {hid : Hid1} {l : List AOper} {ops : Array Oper}
def valI (Φ:Phi) (hid:Hid1) (l:List AOper) (s0:St) (i:Nat):AV :=
 match resD Φ (hid.getD i (0,false)) (l.getD i dflO) ((stI Φ hid l s0 i).2 ++ [(stI Φ hid l s0 i).1.hp.length]) (stI Φ hid l s0 i).1 with
 | some (x,_,_)=>x
 | none=>.top
theorem stI_succ {i:Nat} {x:AV} {hp:List AObj} {p:Prop} (h:resD Φ (hid.getD i (0,false)) (l.getD i dflO) ((stI Φ hid l s0 i).2 ++ [(stI Φ hid l s0 i).1.hp.length]) (stI Φ hid l s0 i).1=some (x,hp,p)) :
  (stI Φ hid l s0 (i+1)).1=(pinO (l.getD i dflO) (stI Φ hid l s0 i).1).put (l.getD i dflO).dst x hp∧valI Φ hid l s0 i=x:=by
 refine ⟨by simp only [stI,h],by unfold valI; rw [h]⟩
theorem put_hp (s:St) (d:Option Nat) (x:AV) (hp:List AObj):(s.put d x hp).hp=hp:=by cases d <;> rfl
theorem put_lk (s:St) (d:Option Nat) (x:AV) (hp:List AObj) (t:Nat):lk (s.put d x hp).fr t=if d=some t then x else lk s.fr t:=by
 cases d with
 | none=>simp [St.put]
 | some u=>simp only [St.put,lk,Option.some.injEq]
structure Drawn (P:Program) (Φ:Phi) (N:Nat) (ops:Array Oper) (hid:Hid1) (l:List AOper) (s0:St):Prop where
 len:l.length=ops.size
 mt:∀ (i:Nat) (o:Oper),ops[i]?=some o→MtO P N ops o (l.getD i dflO)
 edge:∀ (i:Nat) (o:Oper),ops[i]?=some o→∀ k∈esO o,k<i
 uniq:∀ i j t,i<ops.size→j<ops.size→(l.getD i dflO).dst=some t→(l.getD j dflO).dst=some t→i=j
 slot:∀ i k t,i<ops.size→k<ops.size→k≠i→t∈(l.getD i dflO).rd→(l.getD k dflO).dst=some t→(k<i∧((ancGo ops.toList []).getD i 0).testBit k=true)∨(i<k∧((ancGo ops.toList []).getD k 0).testBit i=true)
 tot:∀ i k,i<ops.size→k<i→(l.getD i dflO).op.isH=true→(l.getD k dflO).op.isH=true→((ancGo ops.toList []).getD i 0).testBit k=true∨(fxL ops l i=true∧fxL ops l k=true)
 first:∀ i k,i<ops.size→k<ops.size→(l.getD i dflO).op.isH=true→fxL ops l i=false→fxL ops l k=true→k<i∧((ancGo ops.toList []).getD i 0).testBit k=true
 bar:∀ i,i<ops.size→(hid.getD i (0,false)).2=true→(∀ k,k<i→hfL l k=false→((ancGo ops.toList []).getD i 0).testBit k=true)∧(∀ k,i<k→k<ops.size→hfL l k=false→((ancGo ops.toList []).getD k 0).testBit i=true)
 pos:∀ i,i<ops.size→(l.getD i dflO).op.isH=false→(hid.getD i (0,false)).1≤i
 posR:∀ i k,i<ops.size→k<ops.size→(l.getD i dflO).op.isH=false→hfL l i=false→(l.getD k dflO).op.isH=true→k<(hid.getD k (0,false)).1→(hid.getD i (0,false)).1≤k→(hid.getD i (0,false)).1=0∨(i<k∧((ancGo ops.toList []).getD k 0).testBit i=true)
 posA:∀ i k,i<ops.size→(l.getD i dflO).op.isH=false→k<(hid.getD i (0,false)).1→(l.getD k dflO).op.isH=true→((ancGo ops.toList []).getD i 0).testBit k=true
 posB:∀ i k,i<ops.size→(l.getD i dflO).op.isH=false→hfL l i=false→k<i→(hid.getD i (0,false)).1≤k→(l.getD k dflO).op.isH=true→(hid.getD k (0,false)).2=false
 res:∀ i,i<ops.size→∃ x hp p,resD Φ (hid.getD i (0,false)) (l.getD i dflO) ((stI Φ hid l s0 i).2 ++ [(stI Φ hid l s0 i).1.hp.length]) (stI Φ hid l s0 i).1=some (x,hp,p)∧p
theorem all2_get {α β:Type} {R:α→β→Prop}:∀ {l:List α} {m:List β},All2 R l m→l.length=m.length∧∀ (i:Nat) (x:α) (y:β),l[i]?=some x→m[i]?=some y→R x y:=by
 intro l
 induction l with
 | nil=>intro m h; cases m with | nil=>exact ⟨rfl,fun i x y h=>by simp at h⟩ | cons=>exact h.elim
 | cons a l ih =>
  intro m h
  cases m with
  | nil=>exact h.elim
  | cons b m =>
   obtain ⟨h1,h2⟩:=ih h.2
   refine ⟨by simp [h1],fun i x y hx hy=>?_⟩
   cases i with
   | zero=>simp only [List.getElem?_cons_zero,Option.some.injEq] at hx hy; subst hx hy; exact h.1
   | succ i=>exact h2 i x y (by simpa using hx) (by simpa using hy)
theorem drawn_of (hm:All2 (MtO P N ops) ops.toList l) (hd:drawB ops hid l=true) {K:St→Prop} (h:drawQ Φ hid l K s0):Drawn P Φ N ops hid l s0∧K (stI Φ hid l s0 ops.size).1:=by
 simp only [drawB,Bool.and_eq_true,beq_iff_eq] at hd
 obtain ⟨⟨⟨⟨⟨⟨⟨⟨⟨d1,d2⟩,d3⟩,d4⟩,d5⟩,d6⟩,d9⟩,d7⟩,dR⟩,d8⟩:=hd
 have hlen:hid.length=l.length:=by rw [d1,d2]
 obtain ⟨r1,r2⟩:=arunD_run Φ hid l s0 hlen l.length 0 (by omega) h
 have lg:∀ {i:Nat},i<ops.size→l[i]?=some (l.getD i dflO):=fun {i} hi=>by rw [List.getD_eq_getElem?_getD,List.getElem?_eq_getElem (by omega)]; rfl
 obtain ⟨m1,m2⟩:=all2_get hm
 refine ⟨⟨d1,fun i o ho=>?_,fun i o ho k hk=>?_,fun i j t hi hj h1 h2=>?_,fun i k t hi hk hne ht hkd=>?_,fun i k hi hk h1 h2=>?_,fun i k hi hk h1 h2 h3=>?_,fun i hi hb=>?_,fun i hi hHi=>?_,fun i k hi hk hHi hfi hH hr hp=>?_,fun i k hi hHi hk hH=>?_,fun i k hi hHi hfi hki hk hH=>?_,fun i hi=>?_⟩,by rw [← d1]; exact r2⟩
 ·have hi:=(Array.getElem?_eq_some_iff.1 ho).1
  exact m2 i o _ (by rw [Array.getElem?_toList]; exact ho) (lg hi)
 ·have hi:=(Array.getElem?_eq_some_iff.1 ho).1
  have:=ltAll_ok d3 i hi
  rw [ho] at this
  simp only [Option.map_some,Option.getD_some,List.all_eq_true,decide_eq_true_eq] at this
  exact this k hk
 ·have:=ltAll_ok (ltAll_ok d4 i hi) j hj
  simp only [lg hi,lg hj,Option.bind_some,h1,h2,Option.isNone_some,Bool.or_false,bne_self_eq_false,beq_iff_eq] at this
  exact this
 ·have h5:=ltAll_ok d5 i hi
  rw [lg hi] at h5
  simp only [Option.map_some,Option.getD_some,List.all_eq_true] at h5
  have:=ltAll_ok (h5 t ht) k hk
  simp only [lg hk,Option.bind_some,hkd,bne_self_eq_false,Bool.or_false,Bool.or_eq_true,beq_iff_eq,hne,false_or] at this
  split at this
  ·rename_i hlt; exact .inl ⟨hlt,this⟩
  ·exact .inr ⟨by omega,this⟩
 ·have:=ltAll_ok (ltAll_ok d6 i hi) k hk
  simp only [lg hi,lg (show k<ops.size by omega),Option.map_some,Option.getD_some,h1,h2,Bool.and_self,Bool.not_true,Bool.false_or,Bool.or_eq_true,Bool.and_eq_true] at this
  exact this
 ·have:=ltAll_ok d9 i hi
  simp only [lg hi,Option.map_some,Option.getD_some,h1,h2,Bool.not_true,Bool.false_or] at this
  have:=ltAll_ok this k hk
  simp only [h3,Bool.not_true,Bool.false_or,Bool.and_eq_true,decide_eq_true_eq] at this
  exact this
 ·have:=ltAll_ok d7 i hi
  simp only [hb,Bool.not_true,Bool.false_or,Bool.and_eq_true] at this
  refine ⟨fun k hk hfk=>?_,fun k hk hkn hfk=>?_⟩
  ·have h7:=ltAll_ok this.1 k hk
   rw [hfk,Bool.false_or] at h7
   exact h7
  have h7:=ltAll_ok this.2 k hkn
  simp only [hfk,Bool.false_or,Bool.or_eq_true,decide_eq_true_eq] at h7
  exact h7.resolve_left (by omega)
 ·have:=ltAll_ok d8 i hi
  simp only [lg hi,Option.map_some,Option.getD_some,hHi,Bool.false_or,Bool.and_eq_true,decide_eq_true_eq] at this
  exact this.1.1
 ·have:=ltAll_ok dR i hi
  simp only [lg hi,Option.map_some,Option.getD_some,hHi,hfi,Bool.false_or] at this
  have:=ltAll_ok this k hk
  simp only [lg hk,Option.map_some,Option.getD_some,hH,Bool.not_true,Bool.false_or,Bool.or_eq_true,Bool.and_eq_true,decide_eq_true_eq] at this
  rcases this with ((h | h) | h) | h
  ·omega
  ·omega
  ·exact .inl h
  ·exact .inr h
 ·have:=ltAll_ok d8 i hi
  simp only [lg hi,Option.map_some,Option.getD_some,hHi,Bool.false_or,Bool.and_eq_true,decide_eq_true_eq] at this
  have h8:=ltAll_ok this.1.2 k hk
  have hp:=this.1.1
  simp only [lg (show k<ops.size by omega),Option.map_some,Option.getD_some,hH,Bool.not_true,Bool.false_or] at h8
  exact h8
 ·have:=ltAll_ok d8 i hi
  simp only [lg hi,Option.map_some,Option.getD_some,hHi,Bool.and_eq_true,decide_eq_true_eq,hfi,Bool.false_or] at this
  have h8:=ltAll_ok this.2 k hki
  simp only [lg (show k<ops.size by omega),Option.map_some,Option.getD_some,hH,Bool.not_true,Bool.or_false,Bool.or_eq_true,decide_eq_true_eq,Bool.not_eq_true'] at h8
  exact h8.resolve_left (by omega)
 ·exact r1 i (Nat.zero_le _) (by omega)
end
end Go.Proofs.YtakolikdebfkeaaDoor
namespace Go.Proofs.YtakolikdebfkeaaDoor
open Go.RowKit
section
variable {P : Program} {Φ : Phi} {F : Nat → Prop} {w0 w : World} {S0 S : Nat → Prop} {ρ0 ρ : Rho} {N : Nat} {ds : List Deferred} {s0 : St} {a : Act} {hid : Hid1} {l : List AOper} {ops : Array Oper}
theorem rd_op {o:AOper} {t:Nat} (h:t∈o.op.rd):t∈o.rd:=List.mem_append_left _ h
theorem rd_grd {o:AOper} {t:Nat} {c:Bool} (h:o.grd=some (t,c)):t∈o.rd:=by
 refine List.mem_append_right _ ?_
 rw [h]; simp
abbrev dstL (l:List AOper) (k:Nat):Option Nat:=(l.getD k dflO).dst
abbrev isHL (l:List AOper) (k:Nat):Bool:=(l.getD k dflO).op.isH
abbrev hI (Φ:Phi) (hid:Hid1) (l:List AOper) (s0:St) (i:Nat):List AObj:=(stI Φ hid l s0 i).1.hp
def objN:AOp→AObj
 | .new t ps=>.cells t ps
 | _=>.gone
def flD (ops:Array Oper) (l:List AOper) (D:Nat→Bool):Nat→List AObj
 | 0=>[]
 | n+1=>if fxL ops l n=true then flD ops l D n ++ [if D n=true then objN (l.getD n dflO).op else .gone] else flD ops l D n
def anyNF (ops:Array Oper) (l:List AOper) (D:Nat→Bool) (n:Nat):Bool:=(List.range n).any fun k=>D k && (isHL l k && !fxL ops l k)
def hpD (Φ:Phi) (ops:Array Oper) (hid:Hid1) (l:List AOper) (s0:St) (D:Nat→Bool):List AObj :=
 if anyNF ops l D ops.size=true then hI Φ hid l s0 (hposD (isHL l) D ops.size) else s0.hp ++ flD ops l D ops.size
def sD (Φ:Phi) (hid:Hid1) (l:List AOper) (s0:St) (ops:Array Oper) (D:Nat→Bool):St:=⟨frD (valI Φ hid l s0) (dstL l) s0.fr D ops.size,hpD Φ ops hid l s0 D⟩
def addD (D:Nat→Bool) (i:Nat):Nat→Bool:=fun k=>if k=i then true else D k
section
variable {D D' : Nat → Bool}
theorem isNew_ok {o:AOper} (h:o.isNew=true):∃ t ps,o.op=.new t ps∧o.grd=none:=by
 obtain ⟨d,op,g⟩:=o
 cases g <;> cases op <;> first | exact ⟨_,_,rfl,rfl⟩ | cases h
theorem fxL_new {k:Nat} (h:fxL ops l k=true):∃ t ps,(l.getD k dflO).op=.new t ps∧(l.getD k dflO).grd=none:=by
 unfold fxL at h
 rw [Bool.and_eq_true] at h
 exact isNew_ok h.1
theorem fxL_H {k:Nat} (h:fxL ops l k=true):isHL l k=true:=by
 obtain ⟨t,ps,e,_⟩:=fxL_new h
 show (l.getD k dflO).op.isH=true
 rw [e]; rfl
theorem flD_len:∀ n,(flD ops l D n).length=(flD ops l D' n).length:=by
 intro n
 induction n with
 | zero=>rfl
 | succ n ih=>simp only [flD]; split <;> simp [ih]
theorem flD_congr:∀ n,(∀ k,k<n→fxL ops l k=true→D k=D' k)→flD ops l D n=flD ops l D' n:=by
 intro n
 induction n with
 | zero=>intro _; rfl
 | succ n ih =>
  intro h
  simp only [flD]
  rw [ih fun k hk=>h k (by omega)]
  split
  ·rename_i hf; rw [h n (by omega) hf]
  ·rfl
theorem flD_pre {j:Nat}:∀ n,j≤n→∃ t,flD ops l D n=flD ops l D j ++ t:=by
 intro n
 induction n with
 | zero=>intro h; rw [Nat.le_zero.1 h]; exact ⟨[],by simp⟩
 | succ n ih =>
  intro h
  rcases Nat.lt_or_ge n j with h1 | h1
  ·rw [show j=n+1 by omega]; exact ⟨[],by simp⟩
  ·obtain ⟨t,ht⟩:=ih h1
   simp only [flD]
   split
   ·exact ⟨t ++ [_],by rw [ht,List.append_assoc]⟩
   ·exact ⟨t,ht⟩
theorem flD_cut {j:Nat}:∀ n,j≤n→(∀ k,j≤k→k<n→fxL ops l k=false)→flD ops l D n=flD ops l D j:=by
 intro n
 induction n with
 | zero=>intro h _; rw [Nat.le_zero.1 h]
 | succ n ih =>
  intro h h2
  rcases Nat.lt_or_ge n j with h1 | h1
  ·rw [show j=n+1 by omega]
  ·simp only [flD]
   rw [if_neg (by rw [h2 n h1 (by omega)]; exact Bool.false_ne_true)]
   exact ih h1 fun k k1 k2=>h2 k k1 (by omega)
theorem flD_get {i n:Nat} (hi:i<n) (hf:fxL ops l i=true):(flD ops l D n)[(flD ops l D i).length]?=some (if D i=true then objN (l.getD i dflO).op else .gone):=by
 obtain ⟨t,ht⟩:=flD_pre (ops:=ops) (l:=l) (D:=D) (j:=i+1) n (by omega)
 rw [ht]
 simp only [flD,if_pos hf,List.append_assoc]
 rw [List.getElem?_append_right (Nat.le_refl _)]
 simp
theorem flD_set {i:Nat} (hf:fxL ops l i=true):∀ n,i<n→(flD ops l D n).set (flD ops l D i).length (objN (l.getD i dflO).op)=flD ops l (addD D i) n:=by
 intro n
 induction n with
 | zero=>intro h; omega
 | succ n ih =>
  intro h
  rcases Nat.lt_or_ge i n with h1 | h1
  ·obtain ⟨t,ht⟩:=flD_pre (ops:=ops) (l:=l) (D:=D) (j:=i+1) n (by omega)
   have hlt:(flD ops l D i).length<(flD ops l D n).length:=by
    rw [ht]; simp only [flD,if_pos hf,List.length_append,List.length_singleton]; omega
   have e:addD D i n=D n:=by simp [addD,show n≠i by omega]
   simp only [flD,e]
   split
   ·rw [List.set_append_left _ _ hlt,ih h1]
   ·exact ih h1
  ·have:n=i:=by omega
   subst this
   have e:flD ops l (addD D n) n=flD ops l D n:=flD_congr n fun k hk _=>by simp [addD,show k≠n by omega]
   simp only [flD,if_pos hf]
   rw [List.set_append_right _ _ (Nat.le_refl _),Nat.sub_self,e]
   simp [addD]
theorem anyNF_of {n k:Nat} (hk:k<n) (h1:D k=true) (h2:isHL l k=true) (h3:fxL ops l k=false):anyNF ops l D n=true:=by
 unfold anyNF
 rw [List.any_eq_true]
 exact ⟨k,List.mem_range.2 hk,by rw [h1,h2,h3]; rfl⟩
theorem anyNF_ok {n:Nat} (h:anyNF ops l D n=true):∃ k,k<n∧D k=true∧isHL l k=true∧fxL ops l k=false:=by
 unfold anyNF at h
 rw [List.any_eq_true] at h
 obtain ⟨k,h1,h2⟩:=h
 simp only [Bool.and_eq_true,Bool.not_eq_true'] at h2
 exact ⟨k,List.mem_range.1 h1,h2.1,h2.2.1,h2.2.2⟩
end
section
variable (d : Drawn P Φ N ops hid l s0)
include d
theorem Drawn.act (i:Nat) (hi:i<ops.size):(∃ x hp p,exD Φ (hid.getD i (0,false)) (l.getD i dflO) ((stI Φ hid l s0 i).2 ++ [(stI Φ hid l s0 i).1.hp.length]) (stI Φ hid l s0 i).1=some (x,hp,p)∧p∧valI Φ hid l s0 i=x∧hI Φ hid l s0 (i+1)=hp ∧
  ((l.getD i dflO).grd=none∨∃ t c,(l.getD i dflO).grd=some (t,c)∧lk (stI Φ hid l s0 i).1.fr t=.bool c)) ∨
  (valI Φ hid l s0 i=.tup []∧hI Φ hid l s0 (i+1)=hI Φ hid l s0 i∧∃ t b,(l.getD i dflO).grd=some (t,b)∧((∃ c,lk (stI Φ hid l s0 i).1.fr t=.bool c∧c≠b)∨lk (stI Φ hid l s0 i).1.fr t=.tup [])):=by
 obtain ⟨x,hp,p,hr,hp'⟩:=d.res i hi
 obtain ⟨e1,e2⟩:=stI_succ hr
 have e3:hI Φ hid l s0 (i+1)=hp:=by show (stI Φ hid l s0 (i+1)).1.hp=hp; rw [e1,put_hp]
 unfold resD at hr
 split at hr
 ·rename_i hg
  exact .inl ⟨x,hp,p,hr,hp',e2,e3,.inl hg⟩
 ·rename_i t b hg
  split at hr
  ·rename_i c hc
   split at hr
   ·rename_i e
    subst e
    exact .inl ⟨x,hp,p,hr,hp',e2,e3,.inr ⟨t,c,hg,hc⟩⟩
   ·rename_i e
    simp only [Option.some.injEq,Prod.mk.injEq] at hr
    obtain ⟨rfl,rfl,rfl⟩:=hr
    exact .inr ⟨e2,e3,t,b,hg,.inl ⟨c,hc,e⟩⟩
  ·rename_i hc
   simp only [Option.some.injEq,Prod.mk.injEq] at hr
   obtain ⟨rfl,rfl,rfl⟩:=hr
   exact .inr ⟨e2,e3,t,b,hg,.inr hc⟩
  ·cases hr
theorem Drawn.flat1 (i:Nat) (hi:i<ops.size) (h:isHL l i=false):hI Φ hid l s0 (i+1)=hI Φ hid l s0 i:=by
 rcases d.act i hi with ⟨x,hp,p,he,hp',e2,e3,_⟩ | ⟨_,e,_⟩
 ·unfold exD at he
  rw [if_neg (by rw [show (l.getD i dflO).op.isH=false from h]; exact Bool.false_ne_true)] at he
  split at he
  ·simp only [Option.some.injEq,Prod.mk.injEq] at he
   obtain ⟨rfl,rfl,rfl⟩:=he
   exact e3
  ·cases he
 ·exact e
theorem Drawn.pre1 (i:Nat) (hi:i<ops.size) (h:isHL l i=true→(hid.getD i (0,false)).2=false):(∃ t,hI Φ hid l s0 (i+1)=hI Φ hid l s0 i ++ t)∨(isHL l i=true∧i<(hid.getD i (0,false)).1∧∃ t,hI Φ hid l s0 (i+1)=(hI Φ hid l s0 i).take s0.hp.length ++ t):=by
 cases hH:isHL l i with
 | false=>exact .inl ⟨[],by rw [d.flat1 i hi hH,List.append_nil]⟩
 | true =>
  rcases d.act i hi with ⟨x,hp,p,he,hp',e2,e3,_⟩ | ⟨_,e,_⟩
  ·unfold exD at he
   rw [if_pos (show (l.getD i dflO).op.isH=true from hH)] at he
   obtain ⟨hl1,hl2⟩:=stI_lens Φ hid l s0 i
   split at he
   ·rw [if_neg (by rw [h hH]; exact Bool.false_ne_true)] at he
    simp only [Option.some.injEq,Prod.mk.injEq] at he
    obtain ⟨rfl,rfl,rfl⟩:=he
    have hk:=hp'.2
    unfold keepN at hk
    split at hk
    ·obtain ⟨t,ht⟩:=preB_ok hk
     exact .inl ⟨t,e3.trans ht⟩
    ·rename_i hn
     have e0:((stI Φ hid l s0 i).2 ++ [(stI Φ hid l s0 i).1.hp.length]).getD 0 0=s0.hp.length:=by
      rcases Nat.eq_zero_or_pos i with h0 | h0
      ·subst h0; rfl
      ·rw [List.getD_eq_getElem?_getD,List.getElem?_append_left (by rw [hl1]; exact h0),← List.getD_eq_getElem?_getD]; exact hl2 0 h0
     rw [e0] at hk
     obtain ⟨t,ht⟩:=preB_ok hk
     refine .inr ⟨rfl,?_,t,e3.trans ht⟩
     rw [List.length_append,hl1,List.length_singleton] at hn
     omega
   ·cases he
  ·exact .inl ⟨[],by rw [e,List.append_nil]⟩
theorem Drawn.flat {j:Nat}:∀ {i:Nat},j≤i→i≤ops.size→(∀ k,j≤k→k<i→isHL l k=false)→hI Φ hid l s0 i=hI Φ hid l s0 j:=by
 intro i
 induction i with
 | zero=>intro h _ _; rw [Nat.le_zero.1 h]
 | succ i ih =>
  intro h1 h2 h3
  rcases Nat.lt_or_ge i j with h | h
  ·rw [show j=i+1 by omega]
  ·rw [d.flat1 i (by omega) (h3 i h (by omega))]; exact ih h (by omega) fun k k1 k2=>h3 k k1 (by omega)
theorem Drawn.new1 (i:Nat) (hi:i<ops.size) (h:fxL ops l i=true):hI Φ hid l s0 (i+1)=hI Φ hid l s0 i ++ [objN (l.getD i dflO).op]∧valI Φ hid l s0 i=.ref (hI Φ hid l s0 i).length 0 0:=by
 obtain ⟨t,ps,e,eg⟩:=fxL_new h
 rcases d.act i hi with ⟨x,hp,p,he,hp',e2,e3,_⟩ | ⟨_,_,t',b,hg,_⟩
 ·unfold exD at he
  rw [if_pos (by rw [e]; rfl),e] at he
  simp only [astep,stN,anew] at he
  split at he
  ·simp only [Option.some.injEq,Prod.mk.injEq] at he
   obtain ⟨rfl,rfl,rfl⟩:=he
   rw [e]; exact ⟨e3,e2⟩
  ·simp only [Option.some.injEq,Prod.mk.injEq] at he
   obtain ⟨rfl,rfl,rfl⟩:=he
   rw [e]; exact ⟨e3,e2⟩
 ·rw [eg] at hg; cases hg
theorem Drawn.hI_fx:∀ j,j≤ops.size→(∀ k,k<j→isHL l k=true→fxL ops l k=true)→hI Φ hid l s0 j=s0.hp ++ flD ops l (fun _=>true) j:=by
 intro j
 induction j with
 | zero=>intro _ _; simp [flD,hI,stI]
 | succ j ih =>
  intro hj h
  have h0:=ih (by omega) fun k hk=>h k (by omega)
  cases hH:isHL l j with
  | false =>
   have hf:fxL ops l j=false:=by
    cases hf:fxL ops l j with
    | false=>rfl
    | true=>rw [fxL_H hf] at hH; cases hH
   rw [d.flat1 j (by omega) hH,h0]
   simp [flD,hf]
  | true =>
   have hf:=h j (by omega) hH
   rw [(d.new1 j (by omega) hf).1,h0]
   simp [flD,hf]
theorem Drawn.pre {j:Nat}:∀ {i:Nat},j≤i→i≤ops.size→(∀ k,j≤k→k<i→isHL l k=true→(hid.getD k (0,false)).2=false∧(k<(hid.getD k (0,false)).1→j=0))→∃ t,hI Φ hid l s0 i=hI Φ hid l s0 j ++ t:=by
 intro i
 induction i with
 | zero=>intro h _ _; rw [Nat.le_zero.1 h]; exact ⟨[],by simp⟩
 | succ i ih =>
  intro h1 h2 h3
  rcases Nat.lt_or_ge i j with h | h
  ·rw [show j=i+1 by omega]; exact ⟨[],by simp⟩
  ·obtain ⟨u,hu⟩:=ih h (by omega) fun k k1 k2=>h3 k k1 (by omega)
   rcases d.pre1 i (by omega) (fun hH=>(h3 i h (by omega) hH).1) with ⟨t,ht⟩ | ⟨hH,hr,t,ht⟩
   ·exact ⟨u ++ t,by rw [ht,hu,List.append_assoc]⟩
   ·have hj:=(h3 i h (by omega) hH).2 hr
    subst hj
    refine ⟨t,?_⟩
    rw [ht,hu,List.take_append_of_le_length (show s0.hp.length≤(hI Φ hid l s0 0).length from Nat.le_refl _)]
    show s0.hp.take s0.hp.length ++ t=s0.hp ++ t
    rw [List.take_length]
theorem Drawn.txt:∀ i,i≤ops.size→∀ t,lk (stI Φ hid l s0 i).1.fr t=slotD (valI Φ hid l s0) (dstL l) (lk s0.fr) (fun _=>true) i t:=by
 intro i
 induction i with
 | zero=>intro _ t; rfl
 | succ i ih =>
  intro hi t
  obtain ⟨x,hp,p,hr,hp'⟩:=d.res i (by omega)
  obtain ⟨e1,e2⟩:=stI_succ hr
  rw [e1,put_lk,pinO_lk,ih (by omega)]
  simp only [slotD,true_and,e2]
variable {D : Nat → Bool} (hD : ClosedD ops D) {i : Nat} {o : Oper} (hi : ops[i]? = some o) (hDi : D i = false) (he : ∀ e ∈ esO o,D e = true)
include hD hi hDi he
theorem Drawn.later {k:Nat} (hk:k<ops.size) (hDk:D k=true):¬ ((ancGo ops.toList []).getD k 0).testBit i=true:=by
 intro h
 have ho:=Array.getElem?_eq_getElem hk
 have:=anc_ok hD ho (fun e h=>hD k _ hDk ho e h) h
 rw [hDi] at this; cases this
theorem Drawn.reads {t:Nat} (ht:t∈(l.getD i dflO).rd):lk (sD Φ hid l s0 ops D).fr t=lk (stI Φ hid l s0 i).1.fr t:=by
 have hin:i<ops.size:=(Array.getElem?_eq_some_iff.1 hi).1
 show lk (frD _ _ _ _ _) t=_
 rw [frD_lk,d.txt i (by omega)]
 by_cases hk:∃ k,k<ops.size∧k≠i∧dstL l k=some t
 ·obtain ⟨k,hk,hne,hkd⟩:=hk
  rcases d.slot i k t hin hk hne ht hkd with ⟨h1,h2⟩ | ⟨h1,h2⟩
  ·have hDk:=anc_ok hD hi he h2
   rw [slotD_in (fun a b ha hb h1 h2=>d.uniq a b t ha hb h1 h2) hk hDk hkd,slotD_in (fun a b ha hb h1 h2=>d.uniq a b t (by omega) (by omega) h1 h2) h1 rfl hkd]
  ·rw [slotD_out (fun k' hk' hD' hd' => ?_),slotD_out (fun k' hk' _ hd' => ?_)]
   ·have:=d.uniq k' k t (by omega) hk hd' hkd
    omega
   ·have:=d.uniq k' k t hk' hk hd' hkd
    subst this
    exact d.later hD hi hDi he hk' hD' h2
 ·rw [slotD_out (fun k' hk' hD' hd' => hk ⟨k',hk',(fun e=>by rw [e,hDi] at hD'; cases hD'),hd'⟩),slotD_out (fun k' hk' _ hd' => hk ⟨k',by omega,by omega,hd'⟩)]
theorem Drawn.nf_all {z k:Nat} (hz:z<ops.size) (hDz:D z=true) (hH:isHL l z=true) (hf:fxL ops l z=false) (hk:k<ops.size) (hfk:fxL ops l k=true):D k=true :=
 anc_ok hD (Array.getElem?_eq_getElem hz) (fun e h=>hD z _ hDz (Array.getElem?_eq_getElem hz) e h) (d.first z k hz hk hH hf hfk).2
theorem Drawn.heapH0 (hH:isHL l i=true) (hf:fxL ops l i=false):hI Φ hid l s0 (hposD (isHL l) D ops.size)=hI Φ hid l s0 i:=by
 have hin:i<ops.size:=(Array.getElem?_eq_some_iff.1 hi).1
 have hle:hposD (isHL l) D ops.size≤i:=by
  rcases hposD_last (isH:=isHL l) (D:=D) (n:=ops.size) with h | ⟨m,h1,h2,h3,h4⟩
  ·omega
  ·have:m≠i:=by rintro rfl; rw [hDi] at h3; cases h3
   rcases Nat.lt_or_ge m i with h | h
   ·omega
   ·rcases d.tot m i h1 (by omega) h4 hH with hz | hz
    ·exact absurd hz (d.later hD hi hDi he h1 h3)
    ·rw [hf] at hz; cases hz.2
 refine (d.flat hle (by omega) fun k h1 h2=>?_).symm
 cases hk:isHL l k with
 | false=>rfl
 | true =>
  have:=hposD_gt (D:=D) (show k<ops.size by omega) (anc_ok hD hi he ((d.tot i k hin h2 hH hk).resolve_right fun hz=>by rw [hf] at hz; cases hz.1)) hk
  omega
theorem Drawn.heapH (hH:isHL l i=true) (hf:fxL ops l i=false):hpD Φ ops hid l s0 D=hI Φ hid l s0 i:=by
 have hin:i<ops.size:=(Array.getElem?_eq_some_iff.1 hi).1
 unfold hpD
 split
 ·exact d.heapH0 hD hi hDi he hH hf
 ·rename_i hn
  have hlow:∀ k,k<i→isHL l k=true→fxL ops l k=true:=by
   intro k hk hkH
   cases hfk:fxL ops l k with
   | true=>rfl
   | false =>
    have:=anc_ok hD hi he ((d.tot i k hin hk hH hkH).resolve_right fun hz=>by rw [hf] at hz; cases hz.1)
    exact absurd (anyNF_of (by omega) this hkH hfk) hn
  rw [d.hI_fx i (by omega) hlow]
  congr 1
  rw [flD_congr (D' := fun _=>true) ops.size fun k hk hfk=>anc_ok hD hi he (d.first i k hin hk hH hf hfk).2]
  refine flD_cut _ (by omega) fun k h1 h2=>?_
  cases hfk:fxL ops l k with
  | false=>rfl
  | true=>have:=(d.first i k hin h2 hH hf hfk).1; omega
theorem Drawn.heapH1 (hH:isHL l i=true) (hf:fxL ops l i=false):hposD (isHL l) (addD D i) ops.size=i+1:=by
 have hin:i<ops.size:=(Array.getElem?_eq_some_iff.1 hi).1
 have h0:=hposD_gt (D:=addD D i) hin (by simp [addD]) hH
 rcases hposD_last (isH:=isHL l) (D:=addD D i) (n:=ops.size) with h | ⟨m,h1,h2,h3,h4⟩
 ·omega
 ·rcases Nat.lt_or_ge i m with h | h
  ·have h3' : D m=true:=by simpa [addD,show m≠i by omega] using h3
   rcases d.tot m i h1 h h4 hH with hz | hz
   ·exact absurd hz (d.later hD hi hDi he h1 h3')
   ·rw [hf] at hz; cases hz.2
  ·omega
theorem Drawn.heapH' (hH:isHL l i=true) (hf:fxL ops l i=false):hpD Φ ops hid l s0 (addD D i)=hI Φ hid l s0 (i+1):=by
 have hin:i<ops.size:=(Array.getElem?_eq_some_iff.1 hi).1
 unfold hpD
 rw [if_pos (anyNF_of hin (by simp [addD]) hH hf),d.heapH1 hD hi hDi he hH hf]
omit d hD hi hDi he in
theorem hposD_add (hH:isHL l i=false):∀ n,hposD (isHL l) (addD D i) n=hposD (isHL l) D n:=by
 intro n
 induction n with
 | zero=>rfl
 | succ n ih =>
  simp only [hposD,ih]
  by_cases e:n=i
  ·subst e; rw [hH]; simp
  ·simp [addD,e]
omit d hD hi hDi he in
theorem hpD_add (hH:isHL l i=false):hpD Φ ops hid l s0 (addD D i)=hpD Φ ops hid l s0 D:=by
 have hne:∀ k,isHL l k=true→addD D i k=D k:=by
  intro k hk
  have:k≠i:=by rintro rfl; rw [hH] at hk; cases hk
  simp [addD,this]
 have e1:anyNF ops l (addD D i) ops.size=anyNF ops l D ops.size:=by
  unfold anyNF
  congr 1
  funext k
  cases hk:isHL l k with
  | false=>simp
  | true=>rw [hne k hk]
 unfold hpD
 rw [e1,hposD_add hH,flD_congr (D:=addD D i) (D' := D) _ fun k _ hf=>hne k (fxL_H hf)]
theorem Drawn.noNF (hf:fxL ops l i=true):anyNF ops l D ops.size=false∧anyNF ops l (addD D i) ops.size=false:=by
 have hin:i<ops.size:=(Array.getElem?_eq_some_iff.1 hi).1
 have h1:∀ z,z<ops.size→D z=true→isHL l z=true→fxL ops l z=false→False:=fun z hz hDz hH hfz=>by
  have:=d.nf_all hD hi hDi he hz hDz hH hfz hin hf
  rw [hDi] at this; cases this
 refine ⟨?_,?_⟩
 ·cases hn:anyNF ops l D ops.size with
  | false=>rfl
  | true=>obtain ⟨z,z1,z2,z3,z4⟩:=anyNF_ok hn; exact (h1 z z1 z2 z3 z4).elim
 ·cases hn:anyNF ops l (addD D i) ops.size with
  | false=>rfl
  | true =>
   obtain ⟨z,z1,z2,z3,z4⟩:=anyNF_ok hn
   have hne:z≠i:=by rintro rfl; rw [hf] at z4; cases z4
   exact (h1 z z1 (by simpa [addD,hne] using z2) z3 z4).elim
theorem Drawn.free (hf:fxL ops l i=true):∃ id,(hpD Φ ops hid l s0 D)[id]?=some .gone∧hpD Φ ops hid l s0 (addD D i)=(hpD Φ ops hid l s0 D).set id (objN (l.getD i dflO).op)∧valI Φ hid l s0 i=.ref id 0 0:=by
 have hin:i<ops.size:=(Array.getElem?_eq_some_iff.1 hi).1
 obtain ⟨n1,n2⟩:=d.noNF hD hi hDi he hf
 refine ⟨s0.hp.length+(flD ops l D i).length,?_,?_,?_⟩
 ·unfold hpD
  rw [if_neg (by rw [n1]; exact Bool.false_ne_true),List.getElem?_append_right (Nat.le_add_right _ _),Nat.add_sub_cancel_left,flD_get hin hf,hDi]
  rfl
 ·unfold hpD
  rw [if_neg (by rw [n2]; exact Bool.false_ne_true),if_neg (by rw [n1]; exact Bool.false_ne_true),List.set_append_right _ _ (Nat.le_add_right _ _),Nat.add_sub_cancel_left,flD_set hf _ hin]
 ·rw [(d.new1 i hin hf).2,d.hI_fx i (by omega) fun k hk hkH=>?_,List.length_append,flD_len (D:=fun _=>true) (D' := D)]
  cases hfk:fxL ops l k with
  | true=>rfl
  | false=>have:=(d.first k i (by omega) hin hkH hfk hf).1; omega
theorem Drawn.heapV (hH:isHL l i=false) (hfi:hfL l i=false):∃ t,hpD Φ ops hid l s0 D=hI Φ hid l s0 (hid.getD i (0,false)).1 ++ t:=by
 have hin:i<ops.size:=(Array.getElem?_eq_some_iff.1 hi).1
 have hpos:=d.pos i hin hH
 unfold hpD
 split
 rotate_left
 ·rename_i hn
  have hlow:∀ k,k<(hid.getD i (0,false)).1→isHL l k=true→fxL ops l k=true:=by
   intro k hk hkH
   cases hfk:fxL ops l k with
   | true=>rfl
   | false=>exact absurd (anyNF_of (by omega) (anc_ok hD hi he (d.posA i k hin hH hk hkH)) hkH hfk) hn
  obtain ⟨t,ht⟩:=flD_pre (ops:=ops) (l:=l) (D:=D) (j:=(hid.getD i (0,false)).1) ops.size (by omega)
  refine ⟨t,?_⟩
  rw [ht,d.hI_fx _ (by omega) hlow,List.append_assoc,flD_congr (D:=D) (D' := fun _=>true) _ fun k hk hfk=>anc_ok hD hi he (d.posA i k hin hH hk (fxL_H hfk))]
 rename_i hany
 obtain ⟨z,z1,z2,z3,z4⟩:=anyNF_ok hany
 generalize hq:hposD (isHL l) D ops.size=q
 rcases Nat.lt_or_ge q (hid.getD i (0,false)).1 with hlt | hge
 ·refine ⟨[],?_⟩
  rw [List.append_nil]
  refine (d.flat (Nat.le_of_lt hlt) (by omega) fun k h1 h2=>?_).symm
  cases hk:isHL l k with
  | false=>rfl
  | true =>
   have:=hposD_gt (D:=D) (show k<ops.size by omega) (anc_ok hD hi he (d.posA i k hin hH h2 hk)) hk
   omega
 ·have hqn:q≤ops.size:=by rw [← hq]; exact hposD_le _
  refine d.pre hge hqn fun k h1 h2 hk=>?_
  have hDk:D k=true:=by
   rcases hposD_last (isH:=isHL l) (D:=D) (n:=ops.size) with h | ⟨m,m1,m2,m3,m4⟩
   ·omega
   ·rcases Nat.lt_or_ge k m with h | h
    ·have ho:=Array.getElem?_eq_getElem m1
     rcases d.tot m k m1 h m4 hk with hz | hz
     ·exact anc_ok hD ho (fun e he=>hD m _ m3 ho e he) hz
     ·exact d.nf_all hD hi hDi he z1 z2 z3 z4 (by omega) hz.2
    ·have:k=m:=by omega
     subst this; exact m3
  refine ⟨?_,fun hr=>?_⟩
  ·rcases Nat.lt_or_ge k i with h | h
   ·exact d.posB i k hin hH hfi h h1 hk
   ·cases hb:(hid.getD k (0,false)).2 with
    | false=>rfl
    | true =>
     have hne:k≠i:=by rintro rfl; rw [hDi] at hDk; cases hDk
     exact absurd ((d.bar k (by omega) hb).1 i (by omega) hfi) (d.later hD hi hDi he (by omega) hDk)
  ·rcases d.posR i k hin (by omega) hH hfi hk hr h1 with h | h
   ·exact h
   ·exact absurd h.2 (d.later hD hi hDi he (by omega) hDk)
theorem Drawn.one {F:Nat→Prop} {w0 w:World} {S0:Nat→Prop} {ρ0:Rho} {ds:List Deferred} {a:Act} {K:Act→World→Prop} {Q:Exit→Act→World→Prop} (hΦ:PhiOk P Φ) (R:Rel F w0 S0 ρ0 N ds (sD Φ hid l s0 ops D) a w)
  (hK:∀ a' w',Rel F w0 S0 ρ0 N ds (sD Φ hid l s0 ops (addD D i)) a' w' → K a' w'):wpOp P ops Q i K a w:=by
 have hin:i<ops.size:=(Array.getElem?_eq_some_iff.1 hi).1
 obtain ⟨hd,hop,hdN,hg⟩:=d.mt i o hi
 have rds:=fun {t:Nat} (ht:t∈(l.getD i dflO).rd)=>d.reads hD hi hDi he ht
 have uq:∀ (a b t:Nat),a<ops.size→b<ops.size→dstL l a=some t→dstL l b=some t→a=b:=fun a b t ha hb h1 h2=>d.uniq a b t ha hb h1 h2
 have put:∀ (x:AV) (hp:List AObj),valI Φ hid l s0 i=x→hp=hpD Φ ops hid l s0 (addD D i)→∀ a' w',Rel F w0 S0 ρ0 N ds ((sD Φ hid l s0 ops D).put o.dst x hp) a' w' → Rel F w0 S0 ρ0 N ds (sD Φ hid l s0 ops (addD D i)) a' w' := by
  intro x hp hx hhp a' w' R'
  refine R'.congr (fun t=>?_) (by rw [put_hp]; exact hhp)
  rw [put_lk,hd]
  show _=lk (frD _ _ _ _ _) t
  rw [frD_lk]
  have:=slotD_put (X:=valI Φ hid l s0) (dst:=dstL l) (D:=D) (base:=lk s0.fr) hin uq hDi t
  unfold addD
  rw [this,hx]
  show (if _ then _ else lk (frD _ _ _ _ _) t)=_
  rw [frD_lk]
 unfold wpOp
 rw [hi]
 simp only
 rcases d.act i hin with ⟨x,hp,p,hex,hp',e2,e3,hgr⟩ | ⟨e2,e3,t,b,hgr,hlk⟩
 ·have hw:Region.wanted o (yielded ops a.tmps)=true:=by
   rcases hgr with hgr | ⟨t,c,hgr,hlk⟩
   ·rw [hgr] at hg
    cases hog:o.guard with
    | none=>simp [Region.wanted,hog]
    | some g=>rw [hog] at hg; exact hg.elim
   ·rw [hgr] at hg
    cases hog:o.guard with
    | none=>rw [hog] at hg; exact hg.elim
    | some g =>
     obtain ⟨g,b'⟩:=g
     rw [hog] at hg
     obtain ⟨rfl,hgt,htN⟩:=hg
     obtain ⟨S,ρ,R0⟩:=R
     have hv:=R0.fr.2 t
     rw [rds (rd_grd hgr),hlk] at hv
     rw [wanted_of hog hgt (by rw [R0.size]; exact htN) hv.bool]
     simp
  rw [if_pos hw]
  refine .inl ?_
  unfold exD at hex
  cases hH:isHL l i with
  | true =>
   cases hfx:fxL ops l i with
   | true =>
    obtain ⟨id,f1,f2,f3⟩:=d.free hD hi hDi he hfx
    obtain ⟨t,ps,eo,_⟩:=fxL_new hfx
    obtain ⟨S,ρ,R0⟩:=R
    rw [eo] at hop f2
    exact step_fill R0 hop f1 hdN fun a' w' R' => hK a' w' (put _ _ f3 f2.symm a' w' R')
   | false =>
   rw [if_pos (show (l.getD i dflO).op.isH=true from hH)] at hex
   have hst:∃ p',astep Φ (stI Φ hid l s0 i).1 (l.getD i dflO).op=some (x,hp,p')∧p' := by
    split at hex
    ·split at hex
     ·simp only [Option.some.injEq,Prod.mk.injEq] at hex
      obtain ⟨rfl,rfl,rfl⟩:=hex
      exact ⟨_,by assumption,hp'⟩
     ·simp only [Option.some.injEq,Prod.mk.injEq] at hex
      obtain ⟨rfl,rfl,rfl⟩:=hex
      exact ⟨_,by assumption,hp'.1⟩
    ·cases hex
   obtain ⟨p',hs,hp1⟩:=hst
   rw [astep_congr (s' := sD Φ hid l s0 ops D) (d.heapH hD hi hDi he hH hfx).symm (fun t ht=>(rds (rd_op ht)).symm)] at hs
   exact astep_ok hΦ R hop hs hp1 hdN fun a' w' R' => hK a' w' (put x hp e2 (by rw [d.heapH' hD hi hDi he hH hfx]; exact e3.symm) a' w' R')
  | false =>
   rw [if_neg (by rw [show (l.getD i dflO).op.isH=false from hH]; exact Bool.false_ne_true)] at hex
   split at hex
   ·rename_i x' p' hv
    simp only [Option.some.injEq,Prod.mk.injEq] at hex
    obtain ⟨rfl,rfl,rfl⟩:=hex
    have hpos:=d.pos i hin hH
    rcases callP_or (l.getD i dflO).op with ⟨f,cargs,hcp⟩ | hcp
    ·obtain ⟨S,ρ,R0⟩:=R
     rw [hcp] at hop hv
     simp only [avalP] at hv
     obtain ⟨A,ts,ho,rfl⟩:=hop
     have hev:((A.toList.map opd).map (St.ev ⟨(stI Φ hid l s0 i).1.fr,(stI Φ hid l s0 i).1.hp.take (((stI Φ hid l s0 i).2 ++ [(stI Φ hid l s0 i).1.hp.length]).getD (hid.getD i (0,false)).1 0)⟩))=(A.toList.map opd).map (sD Φ hid l s0 ops D).ev :=
      evs_congr (l:=A.toList.map opd) fun t ht=>(rds (rd_op (by rw [hcp]; exact ht))).symm
     rw [hev] at hv
     unfold pureR at hv
     split at hv
     ·rename_i x1 p1 hc
      simp only [Option.some.injEq,Prod.mk.injEq] at hv
      obtain ⟨rfl,rfl⟩:=hv
      have hinF:FnIn P f:=by
       cases hf:Φ f with
       | none=>rw [hf] at hc; cases hc
       | some ms=>exact (hΦ f ms.1 ms.2 hf).2
      unfold Oper.wp
      rw [run_call (cap:=#[]) ho (by rfl) hinF,Oper.upon_enter]
      have hA:(A.map a.eval ++ #[])=(A.toList.map a.eval).toArray:=by apply Array.ext'; simp
      rw [hA]
      refine (acall0_ok (hp2:=(sD Φ hid l s0 ops D).hp) hΦ hc hp' R0.heap (fun _ _ h=>by simp at h) (fun _ h=>by simp at h) (args_ok R0.fr A.toList) (fun _ _ _=>⟨fun k ob hk=>.inr ⟨hk,fun j=>by simp [tau]⟩,fun k _ hk=>by simp only [List.length_nil] at hk; omega,Nat.le_refl _⟩)).mono ?_
      rintro e w' ⟨v,S',ρ',rfl,hvl,H',hE,hS⟩
      exact hK _ _ (put x1 (sD Φ hid l s0 ops D).hp e2 (by rw [hpD_add hH]; rfl) _ _ ⟨S',ρ',R0.next H' hE hS hdN hvl⟩)
     ·cases hv
    have hmt:Mt P o.op (l.getD i dflO).op:=by
     have hH' : (l.getD i dflO).op.isH=false:=hH
     have hcp2:=hcp.2
     revert hop hH' hcp2
     cases (l.getD i dflO).op <;> intro hop hH' hcp2 <;> first | exact absurd rfl (hcp2 _ _) | exact hop | cases hH'
    cases hfi:hfL l i with
    | true =>
     obtain ⟨S,ρ,R0⟩:=R
     rw [avalP_hf hfi _ (hpD Φ ops hid l s0 D),avalP_congr (s:=⟨(stI Φ hid l s0 i).1.fr,hpD Φ ops hid l s0 D⟩) (s' := sD Φ hid l s0 ops D) rfl (fun t ht=>(rds (rd_op ht)).symm),hcp.1] at hv
     obtain ⟨q,hq,hvl⟩:=aval_ok (s:=sD Φ hid l s0 ops D) R0.heap.obs R0.fr hmt hv hp'
     unfold Oper.wp
     rw [hq,Oper.upon_value]
     exact hK _ _ (put x' (sD Φ hid l s0 ops D).hp e2 (by rw [hpD_add hH]; rfl) _ _ ⟨S,ρ,R0.next R0.heap (Ext.refl _ _ _) (fun _ h=>.inl h) hdN hvl⟩)
    | false =>
    obtain ⟨hl1,hl2⟩:=stI_lens Φ hid l s0 i
    have hlen:(((stI Φ hid l s0 i).2 ++ [(stI Φ hid l s0 i).1.hp.length]).getD (hid.getD i (0,false)).1 0)=(hI Φ hid l s0 (hid.getD i (0,false)).1).length:=by
     rcases Nat.lt_or_ge (hid.getD i (0,false)).1 i with h | h
     ·rw [List.getD_eq_getElem?_getD,List.getElem?_append_left (by rw [hl1]; exact h),← List.getD_eq_getElem?_getD]; exact hl2 _ h
     ·have e:(hid.getD i (0,false)).1=i:=by omega
      rw [e,List.getD_eq_getElem?_getD,List.getElem?_append_right (by rw [hl1]; exact Nat.le_refl _),hl1]; simp
    obtain ⟨t1,ht1⟩:=d.pre hpos (by omega) fun k h1 h2 hk=>⟨d.posB i k hin hH hfi h2 h1 hk,fun hr=>(d.posR i k hin (by omega) hH hfi hk hr h1).resolve_right fun h=>by omega⟩
    obtain ⟨t2,ht2⟩:=d.heapV hD hi hDi he hH hfi
    have htk:(stI Φ hid l s0 i).1.hp.take (((stI Φ hid l s0 i).2 ++ [(stI Φ hid l s0 i).1.hp.length]).getD (hid.getD i (0,false)).1 0)=hI Φ hid l s0 (hid.getD i (0,false)).1:=by
     rw [hlen]
     show (hI Φ hid l s0 i).take _=_
     rw [ht1,List.take_append_of_le_length (Nat.le_refl _),List.take_length]
    rw [htk] at hv
    obtain ⟨S,ρ,R0⟩:=R
    have hobs:ObsOk w S ρ (hI Φ hid l s0 (hid.getD i (0,false)).1):=fun id ob h _=>R0.heap.ob id ob (by
     show (hpD Φ ops hid l s0 D)[id]?=_
     rw [ht2,List.getElem?_append_left (List.getElem?_eq_some_iff.1 h).1]; exact h)
    rw [avalP_congr (s:=⟨(stI Φ hid l s0 i).1.fr,hI Φ hid l s0 (hid.getD i (0,false)).1⟩) (s' := ⟨(sD Φ hid l s0 ops D).fr,hI Φ hid l s0 (hid.getD i (0,false)).1⟩) rfl (fun t ht=>(rds (rd_op ht)).symm),hcp.1] at hv
    obtain ⟨q,hq,hvl⟩:=aval_ok (s:=⟨(sD Φ hid l s0 ops D).fr,hI Φ hid l s0 (hid.getD i (0,false)).1⟩) hobs R0.fr hmt hv hp'
    unfold Oper.wp
    rw [hq,Oper.upon_value]
    refine hK _ _ (put x' (sD Φ hid l s0 ops D).hp e2 (by rw [hpD_add hH]; rfl) _ _ ⟨S,ρ,R0.next R0.heap (Ext.refl _ _ _) (fun _ h=>.inl h) hdN hvl⟩)
   ·cases hex
 ·have hw:Region.wanted o (yielded ops a.tmps)=false:=by
   rw [hgr] at hg
   cases hog:o.guard with
   | none=>rw [hog] at hg; exact hg.elim
   | some g =>
    obtain ⟨g,b'⟩:=g
    rw [hog] at hg
    obtain ⟨rfl,hgt,htN⟩:=hg
    obtain ⟨S,ρ,R0⟩:=R
    have hv:=R0.fr.2 t
    rw [rds (rd_grd hgr)] at hv
    rcases hlk with ⟨c,hlk,hcb⟩ | hlk
    ·rw [hlk] at hv
     rw [wanted_of hog hgt (by rw [R0.size]; exact htN) hv.bool]
     simpa using hcb
    ·rw [hlk] at hv
     exact wanted_no hog hgt (undef_of hv)
  rw [if_neg (by rw [hw]; exact Bool.false_ne_true)]
  refine hK _ _ (put (.tup []) (sD Φ hid l s0 ops D).hp e2 ?_ _ _ (R.skip hdN))
  show hpD Φ ops hid l s0 _=_
  cases hH:isHL l i with
  | false=>rw [hpD_add hH]
  | true =>
   have hfx:fxL ops l i=false:=by
    cases hfx:fxL ops l i with
    | false=>rfl
    | true=>obtain ⟨_,_,_,eg⟩:=fxL_new hfx; rw [eg] at hgr; cases hgr
   rw [d.heapH' hD hi hDi he hH hfx,e3,d.heapH hD hi hDi he hH hfx]
end
def cntD (D:Nat→Bool):Nat→Nat
 | 0=>0
 | n+1=>cntD D n+if D n=true then 0 else 1
theorem cntD_le {D:Nat→Bool}:∀ n,cntD D n≤n:=by
 intro n
 induction n with
 | zero=>exact Nat.le_refl _
 | succ n ih=>simp only [cntD]; split <;> omega
theorem cntD_zero {D:Nat→Bool}:∀ {n:Nat},cntD D n=0→∀ k,k<n→D k=true:=by
 intro n
 induction n with
 | zero=>intro _ k hk; omega
 | succ n ih =>
  intro h k hk
  simp only [cntD] at h
  split at h
  ·rename_i hn
   rcases Nat.lt_or_ge k n with h1 | h1
   ·exact ih (by omega) k h1
   ·rw [show k=n by omega]; exact hn
  ·omega
theorem cntD_add {D:Nat→Bool} {i:Nat} (hi:D i=false):∀ {n:Nat},cntD (addD D i) n+(if i<n then 1 else 0)=cntD D n:=by
 intro n
 induction n with
 | zero=>simp [cntD]
 | succ n ih =>
  simp only [cntD]
  by_cases e:n=i
  ·subst e
   rw [if_neg (Nat.lt_irrefl _)] at ih
   simp [addD,hi] at ih ⊢; omega
  ·have e1:addD D i n=D n:=by simp [addD,e]
   rw [e1]
   by_cases h:i<n
   ·rw [if_pos h] at ih; rw [if_pos (show i<n+1 by omega)]; omega
   ·rw [if_neg h] at ih; rw [if_neg (show ¬ i<n+1 by omega)]; omega
theorem adraw_ok (hΦ:PhiOk P Φ) {id:Nat} {Q:Exit→Act→World→Prop} {K:St→Prop} (hm:All2 (MtO P N ops) ops.toList l) (hd:drawOk P ops hid l) (h:drawQ Φ hid l K s0) (R:Rel F w0 S0 ρ0 N ds s0 a w)
  (hK:∀ s a w,K s→Rel F w0 S0 ρ0 N ds s a w→Q .normal a w):(Code.region id ops true).wp P Q a w:=by
 obtain ⟨d,hk⟩:=drawn_of hm hd.2 h
 have fin:∀ (D:Nat→Bool) (a:Act) (w:World),(∀ k,k<ops.size→D k=true)→Rel F w0 S0 ρ0 N ds (sD Φ hid l s0 ops D) a w→Q .normal a w:=by
  intro D a w hall R
  refine hK _ a w hk (R.congr (fun t=>?_) ?_)
  ·show lk (frD _ _ _ _ _) t=_
   rw [frD_lk,d.txt _ (Nat.le_refl _)]
   have gen:∀ n,n≤ops.size→slotD (valI Φ hid l s0) (dstL l) (lk s0.fr) D n t=slotD (valI Φ hid l s0) (dstL l) (lk s0.fr) (fun _=>true) n t:=by
    intro n
    induction n with
    | zero=>intro _; rfl
    | succ n ih=>intro hn; simp only [slotD,hall n (by omega),ih (by omega)]
   exact gen _ (Nat.le_refl _)
  ·show hpD Φ ops hid l s0 D=hI Φ hid l s0 ops.size
   unfold hpD
   split
   rotate_left
   ·rename_i hn
    rw [d.hI_fx ops.size (Nat.le_refl _) fun k hk hkH=>?_,flD_congr (D:=D) (D' := fun _=>true) _ fun k hk _=>hall k hk]
    cases hfk:fxL ops l k with
    | true=>rfl
    | false=>exact absurd (anyNF_of hk (hall k hk) hkH hfk) hn
   refine (d.flat (hposD_le _) (Nat.le_refl _) fun k h1 h2=>?_).symm
   cases hk:isHL l k with
   | false=>rfl
   | true=>have:=hposD_gt h2 (hall k h2) hk; omega
 have rdy:∀ (listed:Array Bool),listed.size=ops.size→Region.ready .any ops listed=[]→∀ k,k<ops.size→listed.getD k false=true:=by
  intro listed hs hr k
  induction k using Nat.strongRecOn with
  | _ k ih =>
   intro hk
   cases hb:listed.getD k false with
   | true=>rfl
   | false =>
    have:k∈Region.ready .any ops listed:=by
     rw [mem_ready]
     refine ⟨?_,ops[k],Array.getElem?_eq_getElem hk,fun e he hb=>?_⟩
     ·simpa [hs,hk] using hb
     ·have:=d.edge k _ (Array.getElem?_eq_getElem hk) e.on (by
       unfold esO
       rw [List.mem_filterMap]
       exact ⟨e,by simpa using he,by rw [if_pos hb]⟩)
      exact ih _ this (by omega)
    rw [hr] at this; cases this
 have go:∀ (fuel:Nat) (listed:Array Bool) (a:Act) (w:World),listed.size=ops.size→ClosedD ops (fun k=>listed.getD k false)→cntD (fun k=>listed.getD k false) ops.size≤fuel→Rel F w0 S0 ρ0 N ds (sD Φ hid l s0 ops fun k=>listed.getD k false) a w→wpAny P .any ops Q fuel listed a w:=by
  intro fuel
  induction fuel with
  | zero =>
   intro listed a w hs hc hn R
   have hall:=cntD_zero (Nat.le_zero.1 hn)
   refine ⟨?_,fin _ a w hall R⟩
   cases hr:Region.ready .any ops listed with
   | nil=>rfl
   | cons x xs =>
    have hx:x∈Region.ready .any ops listed:=by rw [hr]; simp
    obtain ⟨h1,o,h2,_⟩:=mem_ready.1 hx
    have hxn:=(Array.getElem?_eq_some_iff.1 h2).1
    have:=hall x hxn
    simp [hs,hxn] at h1 this
    rw [h1] at this; cases this
  | succ fuel ih =>
   intro listed a w hs hc hn R
   refine ⟨fun hr=>fin _ a w (rdy listed hs hr) R,fun i hi=>?_⟩
   obtain ⟨h1,o,h2,h3⟩:=mem_ready.1 hi
   have hin:=(Array.getElem?_eq_some_iff.1 h2).1
   have hDi:listed.getD i false=false:=by simpa [hs,hin] using h1
   have hes:∀ e∈esO o,listed.getD e false=true:=by
    intro e he
    unfold esO at he
    rw [List.mem_filterMap] at he
    obtain ⟨e',he',hb⟩:=he
    split at hb
    ·injection hb with hb; subst hb; exact h3 e' (by simpa using he') (by assumption)
    ·cases hb
   have hset:(fun k=>(listed.setIfInBounds i true).getD k false)=addD (fun k=>listed.getD k false) i:=by
    funext k
    by_cases e:k=i
    ·subst e; simp [addD,hs,hin]
    ·rw [getD_set_ne false (Ne.symm e)]; simp [addD,e]
   refine d.one hc h2 hDi hes hΦ R fun a' w' R' => ih _ a' w' (by simpa using hs) ?_ ?_ ?_
   ·rw [hset]
    intro k o' hk ho' e he
    by_cases ek:k=i
    ·subst ek
     rw [h2] at ho'; injection ho' with ho'; subst ho'
     unfold addD; split
     ·rfl
     ·exact hes e he
    ·have:=hc k o' (by simpa [addD,ek] using hk) ho' e he
     unfold addD; split
     ·rfl
     ·exact this
   ·rw [hset]
    have:=cntD_add (D:=fun k=>listed.getD k false) (i:=i) (n:=ops.size) hDi
    rw [if_pos hin] at this; omega
   ·rw [hset]; exact R'
 refine wp_region_any hd.1 (go _ _ _ _ (by simp) (fun k o hk _=>?_) (cntD_le _) ?_)
 ·exfalso
  have hk' : (Array.replicate ops.size false).getD k false=true:=hk
  rcases Nat.lt_or_ge k ops.size with h | h <;> simp [h] at hk'
 ·have hf:(fun k=>(Array.replicate ops.size false).getD k false)=fun _=>false:=by
   funext k
   rcases Nat.lt_or_ge k ops.size with h | h <;> simp [h]
  rw [hf]
  have R' : Rel F w0 S0 ρ0 N ds s0 a { w with drawn:=w.drawn+1 }:=by
   obtain ⟨S,ρ,R⟩:=R
   obtain ⟨H',hE⟩:=R.heap.same (w' := { w with drawn:=w.drawn+1 }) (S' := S) ⟨rfl,rfl,rfl,Nat.le_refl _,fun _ _=>rfl⟩ (fun _ h=>h) (fun _ h=>.inl h)
   exact ⟨S,ρ,H',R.fr.ext hE,R.size,R.dfr,R.sin,R.ext.trans hE⟩
  have hres:∀ n,Rel F w0 S0 ρ0 N ds ⟨s0.fr,s0.hp ++ flD ops l (fun _=>false) n⟩ a { w with drawn:=w.drawn+1 }:=by
   intro n
   induction n with
   | zero=>simpa [flD] using R'
   | succ n ih =>
    simp only [flD]
    split
    ·rw [← List.append_assoc]; exact ih.keep
    ·exact ih
  refine (hres ops.size).congr (fun t=>?_) ?_
  ·show _=lk (frD _ _ _ _ _) t
   rw [frD_lk,slotD_out]
   intro k _ h; cases h
  ·show _=hpD Φ ops hid l s0 _
   unfold hpD
   rw [if_neg]
   intro h
   obtain ⟨_,_,h,_⟩:=anyNF_ok h
   cases h
end
def stepA (Φ:Phi) (o:AOper) (s:St) (K:St→Prop):Prop :=
 match o.grd with
 | none=>aq (astep Φ s o.op) s o.dst K
 | some _=>False
def rdyB (deps:List Nat) (dn i:Nat):Bool:=!dn.testBit i && (deps.getD i 0 &&& dn) == deps.getD i 0
def allD (Φ:Phi) (deps:List Nat) (l:List AOper) (K:St→Prop):Nat→Nat→St→Prop
 | 0,_,s=>K s
 | n+1,dn,s=>∀ i,i<l.length→rdyB deps dn i=true→stepA Φ (l.getD i dflO) s (allD Φ deps l K n (dn ||| 2 ^ i))
def anyB (ops:Array Oper) (deps:List Nat) (l:List AOper):Bool :=
 let n:=ops.size
 (l.length == n) &&
 (ltAll n fun i=>((ops[i]?).map esO).getD [] |>.all fun k=>decide (k<i)) &&
 (ltAll n fun i=>decide (deps.getD i 0<2 ^ n) && ltAll n fun k=>!(deps.getD i 0).testBit k || (((ops[i]?).map esO).getD []).contains k)
def anyOk (P:Program) (ops:Array Oper) (deps:List Nat) (l:List AOper):Prop:=P.follows .mixedOrders=true∧anyB ops deps l=true
theorem and_pow_of {x k:Nat} (h:x.testBit k=false):x &&& 2 ^ k=0:=by
 refine Nat.eq_of_testBit_eq fun j=>?_
 rw [Nat.testBit_and,Nat.testBit_two_pow,Nat.zero_testBit]
 by_cases e:k=j
 ·subst e; rw [h]; rfl
 ·simp [e]
theorem and_of_bits {x y:Nat} (h:∀ k,x.testBit k=true→y.testBit k=true):x &&& y=x:=by
 refine Nat.eq_of_testBit_eq fun k=>?_
 rw [Nat.testBit_and]
 cases hx:x.testBit k with
 | false=>rfl
 | true=>rw [h k hx]; rfl
section
variable {P : Program} {Φ : Phi} {F : Nat → Prop} {w0 w : World} {S0 : Nat → Prop} {ρ0 : Rho} {N : Nat} {ds : List Deferred} {s0 : St} {a : Act} {ops : Array Oper} {deps : List Nat} {l : List AOper}
theorem aany_ok (hΦ:PhiOk P Φ) {id:Nat} {Q:Exit→Act→World→Prop} {K:St→Prop} (hm:All2 (MtO P N ops) ops.toList l) (hd:anyOk P ops deps l) (h:allD Φ deps l K l.length 0 s0) (R:Rel F w0 S0 ρ0 N ds s0 a w)
  (hK:∀ s a w,K s→Rel F w0 S0 ρ0 N ds s a w→Q .normal a w):(Code.region id ops true).wp P Q a w:=by
 obtain ⟨hf,hb⟩:=hd
 simp only [anyB,Bool.and_eq_true,beq_iff_eq] at hb
 obtain ⟨⟨d1,d2⟩,d3⟩:=hb
 obtain ⟨m1,m2⟩:=all2_get hm
 have edge:∀ (i:Nat) (o:Oper),ops[i]?=some o→∀ k∈esO o,k<i:=by
  intro i o ho k hk
  have:=ltAll_ok d2 i (Array.getElem?_eq_some_iff.1 ho).1
  rw [ho] at this
  simp only [Option.map_some,Option.getD_some,List.all_eq_true,decide_eq_true_eq] at this
  exact this k hk
 have bits:∀ (i:Nat) (o:Oper),ops[i]?=some o→∀ k,(deps.getD i 0).testBit k=true→k∈esO o:=by
  intro i o ho k hk
  have:=ltAll_ok d3 i (Array.getElem?_eq_some_iff.1 ho).1
  rw [ho] at this
  simp only [Option.map_some,Option.getD_some,Bool.and_eq_true,decide_eq_true_eq] at this
  have hkn:k<ops.size:=by
   rcases Nat.lt_or_ge k ops.size with h | h
   ·exact h
   ·have h2:=Nat.testBit_lt_two_pow (Nat.lt_of_lt_of_le this.1 (Nat.pow_le_pow_right (by omega) h))
    rw [hk] at h2; cases h2
  have h2:=ltAll_ok this.2 k hkn
  rw [hk] at h2
  simpa using h2
 have rdy:∀ (listed:Array Bool),listed.size=ops.size→Region.ready .any ops listed=[]→∀ k,k<ops.size→listed.getD k false=true:=by
  intro listed hs hr k
  induction k using Nat.strongRecOn with
  | _ k ih =>
   intro hk
   cases hb:listed.getD k false with
   | true=>rfl
   | false =>
    have:k∈Region.ready .any ops listed:=by
     rw [mem_ready]
     refine ⟨?_,ops[k],Array.getElem?_eq_getElem hk,fun e he hb=>?_⟩
     ·simpa [hs,hk] using hb
     ·have:=edge k _ (Array.getElem?_eq_getElem hk) e.on (by
       unfold esO
       rw [List.mem_filterMap]
       exact ⟨e,by simpa using he,by rw [if_pos hb]⟩)
      exact ih _ this (by omega)
    rw [hr] at this; cases this
 have all0:∀ {D:Nat→Bool} {n:Nat},(∀ k,k<n→D k=true)→cntD D n=0:=by
  intro D n
  induction n with
  | zero=>intro _; rfl
  | succ n ih=>intro h; simp only [cntD,h n (by omega),ih fun k hk=>h k (by omega),if_true]
 have go:∀ (fuel:Nat) (listed:Array Bool) (dn:Nat) (s:St) (a:Act) (w:World),listed.size=ops.size→(∀ k,k<ops.size→dn.testBit k=listed.getD k false)→cntD (fun k=>listed.getD k false) ops.size=fuel→allD Φ deps l K fuel dn s →
   Rel F w0 S0 ρ0 N ds s a w→wpAny P .any ops Q fuel listed a w:=by
  intro fuel
  induction fuel with
  | zero =>
   intro listed dn s a w hs hc hn hA R
   have hall:=cntD_zero hn
   refine ⟨?_,hK _ _ _ hA R⟩
   cases hr:Region.ready .any ops listed with
   | nil=>rfl
   | cons x xs =>
    have hx:x∈Region.ready .any ops listed:=by rw [hr]; simp
    obtain ⟨h1,o,h2,_⟩:=mem_ready.1 hx
    have hxn:=(Array.getElem?_eq_some_iff.1 h2).1
    have:=hall x hxn
    simp [hs,hxn] at h1 this
    rw [h1] at this; cases this
  | succ fuel ih =>
   intro listed dn s a w hs hc hn hA R
   refine ⟨fun hr=>?_,fun i hi=>?_⟩
   ·rw [all0 (rdy listed hs hr)] at hn; cases hn
   obtain ⟨h1,o,h2,h3⟩:=mem_ready.1 hi
   have hin:=(Array.getElem?_eq_some_iff.1 h2).1
   have hDi:listed.getD i false=false:=by simpa [hs,hin] using h1
   have hes:∀ e∈esO o,listed.getD e false=true:=by
    intro e he
    unfold esO at he
    rw [List.mem_filterMap] at he
    obtain ⟨e',he',hb⟩:=he
    split at hb
    ·injection hb with hb; subst hb; exact h3 e' (by simpa using he') (by assumption)
    ·cases hb
   have hr:rdyB deps dn i=true:=by
    unfold rdyB
    rw [hc i hin,hDi,and_of_bits fun k hk=>?_]
    ·simp
    ·have:=bits i o h2 k hk
     rw [hc k (by have:=edge i o h2 k this; omega)]; exact hes k this
   have hil:i<l.length:=by omega
   have hst:=hA i hil hr
   obtain ⟨hd,hop,hdN,hg⟩:=m2 i o (l.getD i dflO) (by rw [Array.getElem?_toList]; exact h2) (by rw [List.getD_eq_getElem?_getD,List.getElem?_eq_getElem hil]; rfl)
   unfold stepA at hst
   split at hst
   ·rename_i hgr
    rw [hgr] at hg
    have hog:o.guard=none:=by
     cases hog:o.guard with
     | none=>rfl
     | some g=>rw [hog] at hg; exact hg.elim
    unfold aq at hst
    split at hst
    ·rename_i x hp p hs2
     unfold wpOp
     rw [h2]
     simp only
     rw [if_pos (by simp [Region.wanted,hog])]
     refine .inl (astep_ok hΦ R hop hs2 hst.1 hdN fun a' w' R' => ?_)
     rw [hd] at R'
     have hset:(fun k=>(listed.setIfInBounds i true).getD k false)=addD (fun k=>listed.getD k false) i:=by
      funext k
      by_cases e:k=i
      ·subst e; simp [addD,hs,hin]
      ·rw [getD_set_ne false (Ne.symm e)]; simp [addD,e]
     refine ih _ (dn ||| 2 ^ i) _ _ _ (by simpa using hs) (fun k hk=>?_) ?_ hst.2 R'
     ·have:(listed.setIfInBounds i true).getD k false=addD (fun k=>listed.getD k false) i k:=congrFun hset k
      rw [this,Nat.testBit_or,Nat.testBit_two_pow,hc k hk]
      unfold addD
      by_cases e:k=i
      ·subst e; simp
      ·simp [e,Ne.symm e]
     ·rw [hset]
      have:=cntD_add (D:=fun k=>listed.getD k false) (i:=i) (n:=ops.size) hDi
      rw [if_pos hin] at this; omega
    ·exact hst.elim
   ·exact hst.elim
 have c0:∀ n,cntD (fun k=>(Array.replicate ops.size false).getD k false) n=n:=by
  intro n
  induction n with
  | zero=>rfl
  | succ n ih =>
   have:(Array.replicate ops.size false).getD n false=false:=by rcases Nat.lt_or_ge n ops.size with h | h <;> simp [h]
   simp only [cntD,this,ih]; rfl
 refine wp_region_any hf (go _ _ 0 _ _ _ (by simp) (fun k hk=>by rw [Nat.zero_testBit]; simp [hk]) (c0 _) (by rw [← d1]; exact h) ?_)
 obtain ⟨S,ρ,R⟩:=R
 obtain ⟨H',hE⟩:=R.heap.same (w' := { w with drawn:=w.drawn+1 }) (S' := S) ⟨rfl,rfl,rfl,Nat.le_refl _,fun _ _=>rfl⟩ (fun _ h=>h) (fun _ h=>.inl h)
 exact ⟨S,ρ,H',R.fr.ext hE,R.size,R.dfr,R.sin,R.ext.trans hE⟩
end
theorem allD_mono {Φ:Phi} {deps:List Nat} {l:List AOper} {K K' : St→Prop} (h:∀ s,K s→K' s):∀ (n dn:Nat) (s:St),allD Φ deps l K n dn s→allD Φ deps l K' n dn s:=by
 intro n
 induction n with
 | zero=>intro dn s hk; exact h _ hk
 | succ n ih =>
  intro dn s hk i hi hr
  have:=hk i hi hr
  unfold stepA at this ⊢
  split
  ·rename_i hg
   rw [hg] at this
   unfold aq at this ⊢
   split
   ·rename_i x hp p hs
    rw [hs] at this
    exact ⟨this.1,ih _ _ this.2⟩
   ·rename_i hs; rw [hs] at this; exact this
  ·rename_i g hg; rw [hg] at this; exact this
def isAny:Hid1→Bool
 | (n,_) :: _=>n == 1000
 | []=>false
def depsOf (hid:Hid1):List Nat:=hid.tail.map Prod.fst
def anyHid (P:Program) (ops:Array Oper) (l:List AOper):Option Hid1 :=
 let deps:=ops.toList.map fun o=>(esO o).foldl (fun x k=>x ||| 2 ^ k) 0
 if P.follows .mixedOrders=true∧anyB ops deps l=true then some ((1000,true) :: deps.map fun n=>(n,true)) else none
theorem anyHid_ok {P:Program} {ops:Array Oper} {l:List AOper} {hid:Hid1} (h:anyHid P ops l=some hid):isAny hid=true∧anyOk P ops (depsOf hid) l:=by
 unfold anyHid at h
 simp only at h
 split at h
 ·rename_i hk
  injection h with h; subst h
  refine ⟨rfl,?_⟩
  simp only [depsOf,List.tail_cons,List.map_map]
  exact hk
 ·cases h
def drawHidG (c:Bool) (P:Program) (ops:Array Oper) (l:List AOper):Option Hid1:=(drawHid c P ops l).bind fun hid=>if isAny hid then none else some hid
theorem drawHidG_ok {c:Bool} {P:Program} {ops:Array Oper} {l:List AOper} {hid:Hid1} (h:drawHidG c P ops l=some hid):isAny hid=false∧drawOk P ops hid l:=by
 unfold drawHidG at h
 obtain ⟨hid',h1,h2⟩:=Option.bind_eq_some_iff.1 h
 cases hh:isAny hid' with
 | true=>rw [hh] at h2; cases h2
 | false=>rw [hh] at h2; injection h2 with h2; subst h2; exact ⟨hh,drawHid_ok h1⟩
end Go.Proofs.YtakolikdebfkeaaDoor
namespace Go.Proofs.YtakolikdebfkeaaDoor
open Go.RowKit
inductive ACode where
 | skip
 | reg (hid:Option (List (Nat × Bool))) (l:List AOper)
 | seq (x y:ACode)
 | cond (c:Opd) (x y:ACode)
 | block (id:Nat) (c:ACode)
 | loop (c:ACode)
 | exit (id:Nat)
 | ret
 | scope (c:ACode)
def noG (Q:Exit→St→Prop):Exit→St→Prop
 | .goto _,_=>False
 | e,s=>Q e s
def thenQ (K:St→Prop) (Q:Exit→St→Prop):Exit→St→Prop
 | .normal,s=>K s
 | e,s=>Q e s
def inQ (id:Nat) (Q:Exit→St→Prop):Exit→St→Prop
 | .exit i,s=>if i=id then Q .normal s else Q (.exit i) s
 | e,s=>Q e s
def condQ (x:AV) (p q:Prop):Prop :=
 match x with
 | .bool b=>(b=true→p)∧(b=false→q)
 | _=>False
def ent (nils:List (Nat × TypeId × Nat)) (slots ids:List Nat) (s:St):Option St:=(nilG nils s).bind (kpI slots ids)
def kpQ (m:Nat) (slots:List Nat) (s:St) (I:St→Prop):Prop :=
 ∃ (nils:List (Nat × TypeId × Nat)) (ids:List Nat) (s' : St),nodupB ids=true∧ids.take m=List.range m∧ent nils slots ids s=some s' ∧ I s'
def loopQ (m:Nat) (B:(Exit→St→Prop)→St→Prop) (Q:Exit→St→Prop) (s:St):Prop :=
 ∃ (nils:List (Nat × TypeId × Nat)) (slots ids:List Nat) (I:St→Prop) (μ:St→Nat),nodupB ids=true∧ids.take m=List.range m∧(∃ s',ent nils slots ids s=some s' ∧ I s') ∧
  ∀ s,I s→B (thenQ (fun s' => kpQ m slots s' fun s2=>I s2∧μ s2<μ s) Q) s
def awp (Φ:Phi) (m:Nat):ACode→(Exit→St→Prop)→St→Prop
 | .skip,Q,s=>Q .normal s
 | .reg none l,Q,s=>arun Φ l (Q .normal) s
 | .reg (some hid) l,Q,s=>if isAny hid=true then allD Φ (depsOf hid) l (Q .normal) l.length 0 s else drawQ Φ hid l (Q .normal) s
 | .seq x y,Q,s=>awp Φ m x (thenQ (awp Φ m y Q) Q) s
 | .cond c x y,Q,s=>condQ (s.ev c) (awp Φ m x Q s) (awp Φ m y Q s)
 | .block id c,Q,s=>awp Φ m c (inQ id Q) s
 | .loop c,Q,s=>loopQ m (awp Φ m c) Q s
 | .exit id,Q,s=>Q (.exit id) s
 | .ret,Q,s=>Q .ret s
 | .scope c,Q,s=>awp Φ m c (noG Q) s
def MtC (P:Program) (N:Nat):Code→ACode→Prop
 | .skip,.skip=>True
 | .label _,.skip=>True
 | .region _ ops false,.reg none l=>All2 (MtO P N ops) ops.toList l
 | .region _ ops true,.reg (some hid) l=>All2 (MtO P N ops) ops.toList l∧if isAny hid=true then anyOk P ops (depsOf hid) l else drawOk P ops hid l
 | .seq x y,.seq x' y' => MtC P N x x' ∧ MtC P N y y'
 | .cond c x y,.cond c' x' y' => c' = opd c∧MtC P N x x' ∧ MtC P N y y'
 | .block i c,.block j c' => i=j∧MtC P N c c'
 | .loop c,.loop c' => MtC P N c c'
 | .exit i,.exit j=>i=j
 | .ret,.ret=>True
 | .scope c,.scope c' => MtC P N c c'
 | _,_=>False
section
variable {P : Program} {Φ : Phi} {F : Nat → Prop} {w0 w : World} {S0 S : Nat → Prop} {ρ0 ρ : Rho} {N m : Nat} {ds : List Deferred} {s : St} {a : Act}
theorem awp_ok (hΦ:PhiOk P Φ) (hm0:∀ i v L,ρ0 i v=some L→i<m):∀ (ac:ACode) (code:Code),MtC P N code ac→∀ (Q:Exit→St→Prop) (Q' : Exit→Act→World→Prop),(∀ e s a w,Q e s→Rel F w0 S0 ρ0 N ds s a w→Q' e a w) →
  ∀ s a w,awp Φ m ac Q s→Rel F w0 S0 ρ0 N ds s a w→code.wp P Q' a w:=by
 intro ac
 induction ac with
 | skip =>
  intro code hm Q Q' hQ s a w h R
  cases code <;> first | exact wp_skip (hQ _ _ _ _ h R) | exact wp_label (hQ _ _ _ _ h R) | exact hm.elim | (rename_i d; cases d <;> exact hm.elim)
 | reg hid l =>
  intro code hm Q Q' hQ s a w h R
  cases code <;> first | exact hm.elim | (rename_i d; cases d <;> exact hm.elim) | skip
  case region id' ops draw =>
   cases draw with
   | false =>
    cases hid with
    | none=>exact areg_ok hΦ hm h R fun s a w hk R=>hQ _ _ _ _ hk R
    | some _=>exact hm.elim
   | true =>
    cases hid with
    | none=>exact hm.elim
    | some hid =>
     obtain ⟨hm1,hm2⟩:=hm
     simp only [awp] at h
     cases hh:isAny hid with
     | true=>rw [hh,if_pos rfl] at h hm2; exact aany_ok hΦ hm1 hm2 h R fun s a w hk R=>hQ _ _ _ _ hk R
     | false=>rw [hh,if_neg Bool.false_ne_true] at h hm2; exact adraw_ok hΦ hm1 hm2 h R fun s a w hk R=>hQ _ _ _ _ hk R
 | seq x y ihx ihy =>
  intro code hm Q Q' hQ s a w h R
  cases code <;> first | exact hm.elim | (rename_i d; cases d <;> exact hm.elim) | skip
  case seq x' y' =>
   refine wp_seq (ihx x' hm.1 _ _ (fun e s a w hq R=>?_) s a w h R)
   cases e <;> first | exact ihy y' hm.2 Q Q' hQ s a w hq R | exact hQ _ _ _ _ hq R
 | cond c x y ihx ihy =>
  intro code hm Q Q' hQ s a w h R
  cases code <;> first | exact hm.elim | (rename_i d; cases d <;> exact hm.elim) | skip
  case cond c' x' y' =>
   obtain ⟨rfl,hx,hy⟩:=hm
   simp only [awp,condQ] at h
   split at h
   ·rename_i b hb
    obtain ⟨S,ρ,R0⟩:=R
    have hv:=ev_ok R0.fr c'
    rw [hb] at hv
    refine wp_cond hv.bool ?_
    cases b with
    | true=>exact ihx x' hx Q Q' hQ s a w (h.1 rfl) ⟨S,ρ,R0⟩
    | false=>exact ihy y' hy Q Q' hQ s a w (h.2 rfl) ⟨S,ρ,R0⟩
   ·exact h.elim
 | block id c ih =>
  intro code hm Q Q' hQ s a w h R
  cases code <;> first | exact hm.elim | (rename_i d; cases d <;> exact hm.elim) | skip
  case block id' c' =>
   obtain ⟨rfl,hc⟩:=hm
   refine wp_block (ih c' hc _ _ (fun e s a w hq R=>?_) s a w h R)
   cases e
   case exit i =>
    simp only [inQ] at hq
    simp only [Exit.inBlock]
    split
    ·rename_i e; rw [if_pos e] at hq; exact hQ _ _ _ _ hq R
    ·rename_i e; rw [if_neg e] at hq; exact hQ _ _ _ _ hq R
   all_goals exact hQ _ _ _ _ hq R
 | loop c ih =>
  intro code hm Q Q' hQ s a w h R
  cases code <;> first | exact hm.elim | (rename_i d; cases d <;> exact hm.elim) | skip
  case loop c' =>
   obtain ⟨nils,slots,ids,I,μ,hnd,htk,⟨s',hk,hI⟩,hr⟩:=h
   have hmn:m≤ids.length:=by
    have:=congrArg List.length htk
    simp only [List.length_take,List.length_range] at this; omega
   have hid:∀ i v L,ρ0 i v=some L→ids[i]?=some i:=fun i v L hL=>by
    have hi:=hm0 i v L hL
    have h1:(ids.take m)[i]?=some i:=by rw [htk]; simp [hi]
    rw [List.getElem?_take,if_pos hi] at h1; exact h1
   generalize ids.length=n at *
   have hn0:∀ i v L,ρ0 i v=some L→i<n:=fun i v L h=>Nat.lt_of_lt_of_le (hm0 i v L h) hmn
   unfold ent at hk
   obtain ⟨s1,hk1,hk2⟩:=Option.bind_eq_some_iff.1 hk
   have R' := kpI_ok (nilG_ok _ R hk1) hnd hid hk2
   have key:∀ (k:Nat) (s:St) (a:Act) (w:World),μ s=k→I s→Rel F w0 S0 ρ0 N ds s a w→∀ (b:Frame) (kk:List Item) (cs:List Frame),∃ e a' w',Q' e a' w' ∧ Arrives P (lone (b.at a (.code c' :: .inLoop c' :: kk)) cs w) b kk cs e a' w' := by
    intro k
    induction k using Nat.strongRecOn with
    | _ k ihk =>
     intro s a w hk hI R b kk cs
     have hbody:=ih c' hm _ (Exit.then (fun a' w' => ∃ s2,I s2∧μ s2<μ s∧Rel F w0 S0 ρ0 N ds s2 a' w') Q') (fun e s1 a1 w1 hq R1=>by
      cases e
      case normal =>
       obtain ⟨nils2,ids2,s2,hnd2,htk2,hk2,hI2,hlt⟩:=hq
       unfold ent at hk2
       obtain ⟨s3,hk3,hk4⟩:=Option.bind_eq_some_iff.1 hk2
       refine ⟨s2,hI2,hlt,kpI_ok (nilG_ok _ R1 hk3) hnd2 (fun i v L hL=>?_) hk4⟩
       have hi:=hm0 i v L hL
       have h1:(ids2.take m)[i]?=some i:=by rw [htk2]; simp [hi]
       rw [List.getElem?_take,if_pos hi] at h1; exact h1
      all_goals exact hQ _ _ _ _ hq R1) s a w (hr s hI) R
     obtain ⟨e,a1,w1,hq,harr⟩:=hbody b (.inLoop c' :: kk) cs
     cases e with
     | normal =>
      obtain ⟨s2,hI2,hlt,R2⟩:=hq
      obtain ⟨e2,a2,w2,hq2,harr2⟩:=ihk (μ s2) (by omega) s2 a1 w1 rfl hI2 R2 b kk cs
      exact ⟨e2,a2,w2,hq2,.of_steps (Steps.trans harr (.one step_inLoop)) harr2⟩
     | exit id=>exact ⟨_,a1,w1,hq,.pass (x:=.inLoop c') rfl (fun _ _=>.inl (by simp)) harr⟩
     | goto l=>exact ⟨_,a1,w1,hq,.pass (x:=.inLoop c') rfl (fun _ _=>.inl (by simp)) harr⟩
     | ret=>exact ⟨_,a1,w1,hq,.pass (x:=.inLoop c') rfl (fun _ _=>.inl (by simp)) harr⟩
     | panic ch=>exact ⟨_,a1,w1,hq,.pass (x:=.inLoop c') rfl (fun _ _=>.inl (by simp)) harr⟩
     | outgrown=>exact ⟨_,a1,w1,hq,.pass (x:=.inLoop c') rfl (fun _ _=>.inl (by simp)) harr⟩
   intro b kk cs
   obtain ⟨e,a',w',hq,harr⟩:=key _ s' a w rfl hI R' b kk cs
   exact ⟨e,a',w',hq,.of_steps (.one step_loop) harr⟩
 | exit i =>
  intro code hm Q Q' hQ s a w h R
  cases code <;> first | exact hm.elim | (rename_i d; cases d <;> exact hm.elim) | skip
  case exit j=>cases hm; exact wp_exit (hQ _ _ _ _ h R)
 | ret =>
  intro code hm Q Q' hQ s a w h R
  cases code <;> first | exact hm.elim | (rename_i d; cases d <;> exact hm.elim) | skip
  case ret=>exact wp_ret (hQ _ _ _ _ h R)
 | scope c ih =>
  intro code hm Q Q' hQ s a w h R
  cases code <;> first | exact hm.elim | (rename_i d; cases d <;> exact hm.elim) | skip
  case scope c' =>
   refine wp_scope_straight (ih c' hm (noG Q) (Exit.noGoto Q') (fun e s a w hq R=>?_) s a w h R)
   cases e <;> first | exact hq.elim | exact hQ _ _ _ _ hq R
inductive ARes where
 | t (n:Nat)
 | c (t:Nat) (rt:Rt)
def ares (s:St):ARes→Option (AV × Prop)
 | .t n=>some (lk s.fr n,True)
 | .c t rt=>aLd s.hp rt (lk s.fr t)
def AV.isTup:AV→Bool
 | .tup _=>true
 | _=>false
def aress (s:St):List ARes→Option (List AV × Prop)
 | []=>some ([],True)
 | r :: rs=>match ares s r,aress s rs with
  | some (x,p),some (xs,q)=>if x.isTup then none else some (x :: xs,p∧q)
  | _,_=>none
def aret (s:St):List ARes→Option (AV × Prop)
 | [r]=>ares s r
 | rs=>match aress s rs with
  | some (xs,p)=>some (.tup xs,p)
  | none=>none
def finI (m:Nat) (r:Ret) (s:St) (x:AV) (ids:List Nat):Prop:=ids.take m=List.range m∧nodupB ids=true∧ren (posOf ids) 4 x=some r.v∧lentO s.hp ids=some r.hp
def finP (m:Nat) (r:Ret) (s:St):Option (AV × Prop)→Prop
 | some (x,p)=>p∧finI m r s x (closeIds s.hp 2 (addNew (List.range m) (idsOf 4 x)))
 | none=>False
def retQ (rs:List ARes) (m:Nat) (r:Ret):Exit→St→Prop
 | .normal,s=>finP m r s (aret s rs)
 | .ret,s=>finP m r s (aret s rs)
 | _,_=>False
def slots (k:Nat):List AV→List (Nat × AV)
 | []=>[]
 | x :: xs=>(k,x) :: slots (k+1) xs
def MtR (P:Program):ResultVar→ARes→Prop
 | .tmp t,.t n=>t=n
 | .cell a t,.c n rt=>a=n∧RtOk P t rt
 | _,_=>False
theorem lk_slots:∀ (xs:List AV) (k t:Nat),lk (slots k xs) t=if k≤t then xs.getD (t - k) .top else .top:=by
 intro xs
 induction xs with
 | nil=>intro k t; simp [slots,lk]
 | cons x xs ih =>
  intro k t
  simp only [slots,lk,ih]
  by_cases e:k=t
  ·subst e; simp
  ·rw [if_neg e]
   by_cases h:k≤t
   ·rw [if_pos (show k+1≤t by omega),if_pos h]
    obtain ⟨d,hd⟩:∃ d,t - k=d+1:=⟨t - k - 1,by omega⟩
    rw [hd,show t - (k+1)=d by omega]; rfl
   ·rw [if_neg (by omega),if_neg h]
def resF (ts:Array Value):ResultVar→Sem Value
 | .tmp t=>pure (ts.getD t undef)
 | .cell b t=>do loadVar t (← asAddr (ts.getD b undef))
theorem results_resF (fn:Func) (ts:Array Value):results fn ts=(do
  let vs ← fn.results.mapM (resF ts)
  pure (if h:vs.size=1 then vs[0] else .tuple vs)):=by
 unfold results
 congr 2
theorem ares_ok {rv:ResultVar} {ar:ARes} {x:AV} {p:Prop} (H:ObsOk w S ρ s.hp) (hf:FrOk w S ρ s.fr a.tmps) (hm:MtR P rv ar) (h:ares s ar=some (x,p)) (hp:p) :
  ∃ v,(resF a.tmps rv).run P w=.ok v w∧Vl w S ρ x v:=by
 cases rv with
 | tmp t =>
  cases ar with
  | t n=>cases hm; simp only [ares,Option.some.injEq,Prod.mk.injEq] at h; obtain ⟨rfl,rfl⟩:=h; exact ⟨_,rfl,hf.2 _⟩
  | c=>exact hm.elim
 | cell b t =>
  cases ar with
  | t=>exact hm.elim
  | c n rt =>
   obtain ⟨rfl,ht⟩:=hm
   obtain ⟨q,hq,hv⟩:=aLd_ok (P:=P) H h hp (hf.2 b) ht
   refine ⟨q,?_,hv⟩
   simp only [Instr.loadAt] at hq
   simp only [resF,Sem.run_bind] at hq ⊢
   generalize a.tmps.getD b undef=vv at hq ⊢
   cases vv with
   | pointer ad =>
    cases ad with
    | none=>simp [Instr.sureAddr,stuck,Sem.run,Result.andThen] at hq
    | some ad=>simpa [Instr.sureAddr,asAddr] using hq
   | _=>simp [Instr.sureAddr,stuck,Sem.run,Result.andThen] at hq
theorem aress_ok (H:ObsOk w S ρ s.hp) (hf:FrOk w S ρ s.fr a.tmps):∀ (rv:List ResultVar) (ar:List ARes) (xs:List AV) (p:Prop),All2 (MtR P) rv ar→aress s ar=some (xs,p)→p →
  ∃ vs,(rv.mapM (resF a.tmps)).run P w=.ok vs w∧vs.length=xs.length∧∀ i,i<xs.length→Vl w S ρ (xs.getD i .top) (vs.getD i undef)∧(xs.getD i .top).isTup=false:=by
 intro rv
 induction rv with
 | nil =>
  intro ar xs p hm h hp
  cases ar with
  | nil=>simp only [aress,Option.some.injEq,Prod.mk.injEq] at h; obtain ⟨rfl,rfl⟩:=h; exact ⟨[],by simp,rfl,fun i hi=>by simp at hi⟩
  | cons _ _=>exact hm.elim
 | cons r rv ih =>
  intro ar xs p hm h hp
  cases ar with
  | nil=>exact hm.elim
  | cons q ar =>
   simp only [aress] at h
   split at h
   ·rename_i x p1 xs' q1 h1 h2
    split at h
    ·cases h
    rename_i htup
    simp only [Option.some.injEq,Prod.mk.injEq] at h
    obtain ⟨rfl,rfl⟩:=h
    obtain ⟨v,hv1,hv2⟩:=ares_ok H hf hm.1 h1 hp.1
    obtain ⟨vs,k1,k2,k3⟩:=ih ar xs' q1 hm.2 h2 hp.2
    refine ⟨v :: vs,by simp [List.mapM_cons,hv1,k1],by simp [k2],fun i hi=>?_⟩
    cases i with
    | zero=>exact ⟨by simpa using hv2,by simpa using htup⟩
    | succ i=>simpa using k3 i (by simpa using hi)
   ·cases h
theorem aret_ok {fn:Func} {rs:List ARes} {x:AV} {p:Prop} (H:ObsOk w S ρ s.hp) (hf:FrOk w S ρ s.fr a.tmps) (hm:All2 (MtR P) fn.results.toList rs) (h:aret s rs=some (x,p)) (hp:p):∃ v,(results fn a.tmps).run P w=.ok v w∧Vl w S ρ x v:=by
 have gen:=aress_ok (P:=P) (w:=w) (S:=S) (ρ:=ρ) (s:=s) (a:=a) H hf fn.results.toList rs
 have hres:∀ vs:List Value,(fn.results.toList.mapM (resF a.tmps)).run P w=.ok vs w→(results fn a.tmps).run P w=.ok (if h:vs.toArray.size=1 then vs.toArray[0] else .tuple vs.toArray) w:=by
  intro vs hvs
  rw [results_resF,Array.mapM_eq_mapM_toList]
  simp only [Sem.run_bind,Sem.run_map,hvs,Result.andThen_ok]
  rfl
 match rs,hm,h with
 | [],hm,h =>
  simp only [aret,aress,Option.some.injEq,Prod.mk.injEq] at h
  obtain ⟨rfl,rfl⟩:=h
  obtain ⟨vs,k1,k2,k3⟩:=gen [] True hm rfl trivial
  obtain rfl:=List.eq_nil_of_length_eq_zero k2
  exact ⟨_,hres [] k1,⟨[],rfl,rfl,fun i hi=>by simp at hi⟩⟩
 | [r],hm,h =>
  simp only [aret] at h
  match hrl:fn.results.toList,hm with
  | [rv],hm =>
   obtain ⟨v,hv1,hv2⟩:=ares_ok H hf hm.1 h hp
   refine ⟨v,by rw [hres [v] (by rw [hrl]; simp [List.mapM_cons,hv1])]; rfl,hv2⟩
 | r1 :: r2 :: rs,hm,h =>
  simp only [aret] at h
  split at h
  ·rename_i xs q hx
   simp only [Option.some.injEq,Prod.mk.injEq] at h
   obtain ⟨rfl,rfl⟩:=h
   obtain ⟨vs,k1,k2,k3⟩:=gen xs q hm hx hp
   have hl:2≤xs.length:=by
    simp only [aress] at hx
    split at hx
    ·rename_i h1 h2
     split at hx
     ·cases hx
     split at h2
     ·split at h2
      ·cases h2
      simp only [Option.some.injEq,Prod.mk.injEq] at h2 hx
      obtain ⟨rfl,_⟩:=hx
      obtain ⟨rfl,_⟩:=h2
      simp
     ·cases h2
    ·cases hx
   refine ⟨.tuple vs.toArray,by rw [hres vs k1,dif_neg (by simp; omega)],⟨vs,rfl,k2,fun i hi=>?_⟩⟩
   obtain ⟨e1,e2⟩:=k3 i hi
   exact e1.to1 fun ys e=>by rw [e] at e2; cases e2
  ·cases h
theorem fn_ok {f:FuncId} {fn:Func} {code:Code} {ac:ACode} {rs:List ARes} {sp:Spec} (hf:P.funcs[f]?=some fn) (hb:fn.body=some code) (hm:MtC P fn.ntmps code ac) (hr:All2 (MtR P) fn.results.toList rs) (hΦ:PhiOk P Φ)
  (h:∀ «as» hp r,sp «as» hp=some r→r.pre→«as».length≤fn.ntmps∧awp Φ hp.length ac (retQ rs hp.length r) ⟨slots 0 «as»,hp⟩):FnOk P f sp:=by
 intro «as» hp r hs hp' w S ρ args H ha
 obtain ⟨hlen,hw⟩:=h «as» hp r hs hp'
 refine calls_of_wp hf hb ?_
 have hal:args.length≤fn.ntmps:=by rw [ha.2]; exact hlen
 have R:Rel (Lent ρ hp) w S ρ fn.ntmps [] ⟨slots 0 «as»,hp⟩ { tmps:=args.toArray ++ Array.replicate (fn.ntmps - args.toArray.size) undef,defers:=[] } w:=by
  refine ⟨S,ρ,H,⟨ha.1,fun t=>?_⟩,by simp; omega,rfl,fun b hb=>.inl hb,Ext.refl _ _ _⟩
  rw [lk_slots,if_pos (Nat.zero_le t),Nat.sub_zero]
  rcases Nat.lt_or_ge t «as».length with hlt | hge
  ·have:=ha.3 t hlt
   have e:(args.toArray ++ Array.replicate (fn.ntmps - args.toArray.size) undef).getD t undef=args.getD t undef:=by
    have hta:t<args.length:=by rw [ha.2]; exact hlt
    have h1:(args.toArray ++ Array.replicate (fn.ntmps - args.toArray.size) undef)[t]?=some args[t]:=by
     rw [Array.getElem?_append_left (by simpa using hta)]; simp [hta]
    rw [Array.getD_eq_getD_getElem?,h1,List.getD_eq_getElem?_getD,List.getElem?_eq_getElem hta]
   rw [e]; exact this
  ·have:«as».getD t .top=.top:=by rw [List.getD_eq_getElem?_getD,List.getElem?_eq_none hge]; rfl
   rw [this]; exact Vl.top _
 have fin:∀ (s:St) (a:Act) (w' : World),finP hp.length r s (aret s rs)→Rel (Lent ρ hp) w S ρ fn.ntmps [] s a w' →
   a.defers=[]∧∃ v,(results fn a.tmps).run P w' = .ok v w' ∧ ∃ v' S' ρ',Ending.returned v=.returned v' ∧ Vl w' S' ρ' r.v v' ∧ HeapOk (Lent ρ hp) w S' ρ' r.hp w' ∧ Ext w w' S S' ρ ρ' ∧ (∀ b,S' b→S b∨w.heap.size≤b∨Lent ρ hp b):=by
  intro s a w' hfin hR
  obtain ⟨S',ρ',R⟩:=hR
  unfold finP at hfin
  split at hfin
  ·rename_i x p hx
   obtain ⟨hp1,hfin⟩:=hfin
   generalize closeIds s.hp 2 (addNew (List.range hp.length) (idsOf 4 x))=ids at hfin
   obtain ⟨i1,i2,i3,i4⟩:=hfin
   obtain ⟨v,hv1,hv2⟩:=aret_ok R.heap.obs R.fr hr hx hp1
   obtain ⟨H',hσ⟩:=R.heap.restr i2 i4
   refine ⟨R.dfr,v,hv1,v,S',_,rfl,ren_vl hσ i3 hv2,H',⟨R.ext.mem,R.ext.st,fun i u L hL=>?_⟩,fun b hb=>?_⟩
   ·have hi:i<hp.length:=by
     rcases Nat.lt_or_ge i hp.length with h1 | h1
     ·exact h1
     ·rw [H.new i h1] at hL; cases hL
    have h1:ids[i]?=some i:=by
     have:(ids.take hp.length)[i]?=some i:=by rw [i1]; simp [hi]
     rw [List.getElem?_take,if_pos hi] at this; exact this
    simp only [h1]
    exact R.ext.loc _ _ _ hL
   ·rcases R.sin b hb with h | h | h
    ·exact .inl h
    ·exact .inr (.inr h)
    ·exact .inr (.inl h)
  ·exact hfin.elim
 refine awp_ok hΦ (fun i v L hL=>?_) ac code hm (retQ rs hp.length r) _ (fun e s a w' hq R' => ?_) _ _ w hw R
 ·rcases Nat.lt_or_ge i hp.length with h1 | h1
  ·exact h1
  ·rw [H.new i h1] at hL; cases hL
 ·cases e with
  | normal=>exact fin s a w' hq R'
  | ret=>exact fin s a w' hq R'
  | _=>exact hq.elim
end
end Go.Proofs.YtakolikdebfkeaaDoor
namespace Go.Proofs.YtakolikdebfkeaaDoor
open Go.RowKit
def rtOf (P:Program) (t:TypeId):Option Rt :=
 match P.info? t,P.underlying t with
 | some i,some (.struct _)=>some (.st i.size)
 | some i,some (.array _ _)=>some (.arr i.size)
 | some i,some _=>if i.size=1 then some (.one (match i.zero with
  | some z=>ofC z
  | none=>.top)) else none
 | _,_=>none
def shOf (P:Program):Nat→TypeId→Option (List (Option Nat))
 | 0,_=>none
 | d+1,t=>match P.info? t,P.underlying t with
  | some _,some (.struct fs)=>(mapO (fun (f:Field)=>shOf P d f.type) fs.toList).map List.flatten
  | some i,some (.array _ _)=>some [some i.size]
  | some _,some _=>some [none]
  | _,_=>none
def zOf (P:Program) (t:TypeId):Option (List (Nat × AV)) :=
 match P.info? t,shOf P 6 t with
 | some i,some sh=>match i.zero with
  | some z=>if shSize sh=z.cells.toList.length∧(z.cells.toList.all fun u=>u.oneCell')=true then some (mkParts sh z.cells.toList) else none
  | none=>none
 | _,_=>none
def zvOf (P:Program) (t:TypeId):AV :=
 match P.underlying t,zOf P t with
 | some (.struct _),some ps=>.agg ps
 | some _,some [(_,x)]=>x
 | _,_=>.top
def szOf (P:Program) (t:TypeId):Option Nat:=(P.info? t).map (·.size)
def slOk (P:Program) (t:TypeId):Option (TypeId × Nat × Nat) :=
 match P.underlying t with
 | some (.slice e)=>match P.info? e with
  | some i=>match i.zero with
   | some z=>if z.cells.size=i.size∧0<i.size then some (e,i.size,i.bytes) else none
   | none=>none
  | none=>none
 | _=>none
def isU8 (P:Program) (t:TypeId):Bool :=
 match P.underlying t with
 | some (.int .u8)=>true
 | _=>false
def one1 (P:Program) (e:TypeId):Bool:=(match P.underlying e with | some (.struct _) | some (.array _ _) | none=>false | _=>true) && decide (szOf P e=some 1)
def slimBuild (P:Program) (t:TypeId) (ps:Array (Nat × Operand)):Option AOp :=
 match P.info? t,P.underlying t with
 | some it,some (.struct fs)=>match it.zero,zOf P t,fs.toList.mapM (fun f=>(P.info? f.type).map fun i=>(f.offset,i.size)) with
  | some _,some zs,some places=>(mapO (fun (q:Nat × Operand)=>(places[q.1]?).map fun p=>(p.1,p.2,opd q.2)) ps.toList).map (.build zs)
  | _,_,_=>none
 | some it,some (.array _ e)=>match it.zero with
  | some z=>if szOf P e=some 1∧(z.cells.toList.all fun u=>u.oneCell')=true then some (.buildA z.cells.toList (ps.toList.map fun q=>(q.1,opd q.2))) else none
  | none=>none
 | _,_=>none
def ksOf (P:Program) (k:TypeId):Option KS :=
 match P.underlying k with
 | some (.int q)=>some (.i q)
 | some .string=>some .s
 | some (.array n e)=>if isU8 P e=true∧szOf P e=some 1∧szOf P k=some n∧laidOutB P=true∧k<P.types.size∧P.keyTypeAt 9 k=true then some (.a n) else none
 | _=>none
def zmOk (P:Program) (e:TypeId) (zv:Value):Bool :=
 match P.underlying e,zOf P e with
 | some (.struct _),some ps=>(match zv with | .agg _=>true | _=>false) && (AV.agg ps).multi
 | some _,some [(_,x)]=>(match zv with | .agg _=>x.multi | v=>!x.multi && v.oneCell')
 | _,_=>false
def slimCall (P:Program) (c:Call):Option AOp :=
 match c.callee with
 | .value (.func f)=>some (.call f (c.args.toList.map opd))
 | .value g=>some (.callv (opd g) (c.args.toList.map opd))
 | .builtin .len=>match c.args.toList,c.argTypes.toList with
  | [x],[t]=>match P.underlying t with
   | some .string=>some (.len none true (opd x))
   | some (.slice _)=>some (.len none false (opd x))
   | some (.array n _)=>some (.len (some n) false (opd x))
   | some (.map _ _)=>some (.mlen (opd x))
   | _=>none
  | _,_=>none
 | .builtin .append=>match c.args.toList,c.argTypes.toList with
  | [x,y],[t,t']=>if t=t' then match slOk P t with
   | some (e,sz,by_)=>some (.app e sz by_ (opd x) (opd y))
   | none=>none else match P.underlying t,P.underlying t' with
    | some (.slice e),some .string=>match P.info? e with
     | some i=>match i.zero with
      | some (.int .u8 0)=>if i.size=1∧i.bytes=1 then some (.appS e (opd x) (opd y)) else none
      | _=>none
     | none=>none
    | _,_=>none
  | _,_=>none
 | .builtin .min=>match c.args.toList with
  | [x,y]=>some (.mm false (opd x) (opd y))
  | _=>none
 | .builtin .max=>match c.args.toList with
  | [x,y]=>some (.mm true (opd x) (opd y))
  | _=>none
 | _=>none
def isNilO:Nat→Operand→Bool
 | 0,.const .nilIface=>true
 | 1,.const (.pointer none)=>true
 | 2,.const (.slice none 0 0)=>true
 | _,_=>false
def slimNil (op:BinOp) (k:Nat) (x:Operand) (b:Bool):Option AOp :=
 if b=true then match op with
  | .eql=>some (.nilc k false (opd x))
  | .neq=>some (.nilc k true (opd x))
  | _=>none else none
def slimEqF (P : Program) : Nat → Nat → Nat → List Field → Option (List (Nat × Rt × Nat))
 | 0, _, _, _ => none
 | _ + 1, _, _, [] => some []
 | d + 1, b, n, f :: r => if (f.name == "_") = true then none else match rtOf P f.type, P.underlying f.type, slimEqF P d b n r with
  | some rt, some .string, some l => if f.offset + rt.size ≤ n then some ((b + f.offset, rt, 0) :: l) else none
  | some rt, some (.int _), some l => if f.offset + rt.size ≤ n then some ((b + f.offset, rt, 1) :: l) else none
  | some rt, some (.array k e), some l => if 2 ≤ k ∧ isU8 P e = true ∧ szOf P e = some 1 ∧ f.offset + rt.size ≤ n then some ((b + f.offset, rt, k) :: l) else none
  | some (.st m), some (.struct fl), some l => if P.stoodInHeld f.type = false ∧ f.offset + m ≤ n then (slimEqF P d (b + f.offset) m fl.toList).map (· ++ l) else none
  | _, _, _ => none
def slimOp (P:Program):Op→Option AOp
 | .panic x=>some (.pan (opd x))
 | .move x=>some (.mv (opd x))
 | .assign x=>some (.mv (opd x))
 | .pick c a b=>some (.pick (opd c) (opd a) (opd b))
 | .alloc t=>match P.info? t with
  | some i=>match i.zero with
   | some _=>(zOf P t).map (.new t)
   | none=>none
  | none=>none
 | .box t x=>(szOf P t).map fun sz=>.box t sz (opd x)
 | .build t ps=>slimBuild P t ps
 | .buildSlice t n ps=>match slOk P t with
  | some (e,sz,_)=>if n * sz≤16777216∧ps.toList.map (·.1)=List.range n then some (.buildSl e sz (ps.toList.map fun q=>opd q.2)) else none
  | none=>none
 | .load t x=>(rtOf P t).map fun rt=>.ld rt (opd x)
 | .store t a x=>(rtOf P t).map fun rt=>.st rt (opd a) (opd x)
 | .nilCheck x=>some (.nck (opd x))
 | .binOp op t x y _=>match P.underlying t with
  | some (.int _)=>some (.bin op (opd x) (opd y))
  | some .string=>some (.bin op (opd x) (opd y))
  | some .bool=>match op with
   | .eql=>some (.eqB false (opd x) (opd y))
   | .neq=>some (.eqB true (opd x) (opd y))
   | _=>none
  | some (.array n e)=>if isU8 P e=true∧szOf P e=some 1∧P.eqGuardType P.depth t=false then match op with
   | .eql=>some (.eqA false n (opd x) (opd y))
   | .neq=>some (.eqA true n (opd x) (opd y))
   | _=>none else none
  | some (.struct fl)=>match slimEqF P 40 0 ((szOf P t).getD 0) fl.toList with
   | some fs=>if P.stoodInHeld t=false∧P.eqGuardType P.depth t=false∧fs≠[] then (match op with
    | .eql=>some (.eqS false fs (opd x) (opd y))
    | .neq=>some (.eqS true fs (opd x) (opd y))
    | _=>none) else none
   | none=>none
  | some (.interface _)=>slimNil op 0 x (isNilO 0 y)
  | some (.pointer _)=>slimNil op 1 x (isNilO 1 y)
  | some (.slice _)=>slimNil op 2 x (isNilO 2 y)
  | _=>none
 | .unOp op _ x=>some (.un op (opd x))
 | .convert src dst x=>match P.underlying src,P.underlying dst with
  | some _,some (.int k)=>some (.toInt k (opd x))
  | some .string,some .string=>some (.same (opd x))
  | some (.slice e),some .string=>if isU8 P e=true then some (.toStr (opd x)) else none
  | some .string,some (.slice e)=>if isU8 P e=true then some (.bytes e (opd x)) else none
  | some (.slice e),some (.slice _)=>if isU8 P e=true∧src=dst then some (.mark (opd x)) else none
  | _,_=>none
 | .makeInterface t x=>if P.concrete t=true then some (.mkif t (opd x)) else none
 | .makeFunc f a c=>some (.mkfn f (a.toList.map opd) (c.toList.map opd))
 | .makeSlice t l c=>match P.underlying t with
  | some (.slice e)=>match P.info? e with
   | some i=>match i.zero with
    | some z=>if i.size=1∧z.oneCell' = true then some (.mkSl e 1 i.bytes (ofC z) (opd l) (opd c)) else none
    | none=>none
   | none=>none
  | _=>none
 | .slice t x lo hi none=>match P.underlying t with
  | some .string=>some (.slS (opd x) (lo.map opd) (hi.map opd))
  | some (.slice e)=>(szOf P e).map fun sz=>.sl sz (opd x) (lo.map opd) (hi.map opd)
  | some (.array n e)=>if szOf P e=some 1 then some (.slA n (opd x) (lo.map opd) (hi.map opd)) else none
  | _=>none
 | .fieldAddr t x k=>match P.underlying t with
  | some (.struct fs)=>match fs[k]? with
   | some f=>match szOf P f.type with
    | some n=>if n=0 then none else some (.fa f.offset (opd x))
    | none=>none
   | none=>none
  | _=>none
 | .field t x k=>match P.underlying t with
  | some (.struct fs)=>match fs[k]? with
   | some f=>(rtOf P f.type).map fun rt=>.fld f.offset rt (opd x)
   | none=>none
  | _=>none
 | .indexAddr t x i=>match P.underlying t with
  | some (.slice e)=>(szOf P e).map fun sz=>.ia sz (zvOf P e) (opd x) (opd i)
  | some (.array n e)=>if szOf P e=some 1 then some (.iaA n (opd x) (opd i)) else none
  | _=>none
 | .index t x i=>match P.underlying t with
  | some .string=>some (.idxS (opd x) (opd i))
  | some (.array n e)=>if one1 P e=true then some (.idxA n (zvOf P e) (opd x) (opd i)) else none
  | _=>none
 | .extract x i=>some (.ext (opd x) i)
 | .sliceToArrayPointer t x=>match P.underlying t with
  | some (.array n _)=>some (.s2a n (opd x))
  | _=>none
 | .typeAssert x _ t true=>match P.underlying t with
  | some (.interface _)=>none
  | some _=>some (.tas t (opd x))
  | none=>none
 | .makeMap t none=>match P.underlying t with
  | some (.map k _)=>(ksOf P k).map .mkMap
  | _=>none
 | .lookup t m x ok=>match P.underlying t with
  | some (.map k e)=>match ksOf P k,P.info? e with
   | some ks,some i=>match i.zero with
    | some zv=>if zmOk P e zv=true then some (.mget ok ks (zvOf P e) (opd m) (opd x)) else none
    | none=>none
   | _,_=>none
  | _=>none
 | .mapUpdate t m x v=>match P.underlying t with
  | some (.map k _)=>(ksOf P k).map fun ks=>.mput ks (opd m) (opd x) (opd v)
  | _=>none
 | .call c=>slimCall P c
 | _=>none
section
variable {P : Program}
theorem rtOf_ok {t:TypeId} {rt:Rt} (h:rtOf P t=some rt):RtOk P t rt:=by
 unfold rtOf at h
 split at h
 ·rename_i i fs h1 h2; injection h with h; subst h; exact ⟨by rw [h1]; rfl,by rw [h2]; rfl⟩
 ·rename_i i n e h1 h2; injection h with h; subst h; exact ⟨by rw [h1]; rfl,by rw [h2]; rfl⟩
 ·rename_i i d hs ha h1 h2
  split at h
  ·rename_i e; injection h with h; subst h
   refine ⟨by rw [h1]; simp [Rt.size,e],?_⟩
   rw [h2]
   cases d <;> first | rfl | exact absurd rfl (hs _) | exact absurd rfl (ha _ _) | skip
  ·cases h
 ·cases h
theorem zOf_ok {t:TypeId} {ps:List (Nat × AV)} {i:TypeInfo} {z:Value} (h:zOf P t=some ps) (hi:P.info? t=some i) (hz:i.zero=some z):∀ (w:World) (S:Nat→Prop) (ρ:Rho),Css w S ρ ps z.cells.toList:=by
 unfold zOf at h
 rw [hi] at h
 split at h
 ·rename_i i' sh h1 h2
  injection h1 with h1; subst h1
  rw [hz] at h
  simp only at h
  split at h
  ·rename_i e; injection h with h; subst h
   intro w S ρ; exact mkParts_ok sh _ e.1 e.2
  ·cases h
 ·cases h
theorem slOk_ok {t e:TypeId} {sz by_:Nat} (h:slOk P t=some (e,sz,by_)):SlOk P t e sz by_:=by
 unfold slOk at h
 split at h
 ·rename_i e' h1
  split at h
  ·rename_i i h2
   split at h
   ·rename_i z h3
    split at h
    ·rename_i c; simp only [Option.some.injEq,Prod.mk.injEq] at h; obtain ⟨rfl,rfl,rfl⟩:=h
     exact ⟨h1,by rw [h2]; simp [h3,c.1],c.2⟩
    ·cases h
   ·cases h
  ·cases h
 ·cases h
theorem isU8_ok {t:TypeId} (h:isU8 P t=true):P.underlying t=some (.int .u8):=by
 unfold isU8 at h
 split at h
 ·assumption
 ·cases h
theorem ksOf_ok {k:TypeId} {ks:KS} (h:ksOf P k=some ks):KeyOk P k ks:=by
 unfold ksOf at h
 split at h
 ·rename_i q hk
  injection h with h; subst h
  refine KeyOk.of_keyed (Maps.int_keyed hk) fun m hm=>?_
  cases m with
  | i k' n =>
   obtain ⟨rfl,h1,h2⟩:=hm
   exact ⟨_,Maps.keyOf_int_mk hk (by simp [Lit.wf,h1,h2])⟩
  | s l=>exact hm.elim
  | a l=>exact hm.elim
 ·rename_i hk
  injection h with h; subst h
  refine KeyOk.of_keyed (Maps.string_keyed hk) fun m hm=>?_
  cases m with
  | i k' n=>exact hm.elim
  | s l=>exact ⟨_,Go.WideMaps.keyOf_string_mk hk (show l.toArray.size≤maxLen from (List.size_toArray («as»:=l)).symm ▸ (hm:l.length≤9223372036854775807))⟩
  | a l=>exact hm.elim
 ·rename_i n e hk
  split at h
  ·rename_i c
   obtain ⟨c1,c2,c3,c4,c5,c6⟩:=c
   injection h with h; subst h
   have hu8:=isU8_ok c1
   refine KeyOk.of_keyed (Maps.Keyed.of_law (deep_law_laid c4 (m:=9) (by omega) c5 c6 (by rw [hk]))) fun m hm=>?_
   cases m with
   | i k' n=>exact hm.elim
   | s l=>exact hm.elim
   | a l =>
    have hl:l.length=n:=hm
    have hce:P.cellsOf e=1:=by unfold Program.cellsOf; unfold szOf at c2; rw [c2]; rfl
    have hck:P.cellsOf k=n:=by unfold Program.cellsOf; unfold szOf at c3; rw [c3]; rfl
    obtain ⟨N,hN⟩:∃ N,P.types.size=N+1:=⟨P.types.size - 1,(Nat.succ_pred_eq_of_pos (Nat.lt_of_le_of_lt (Nat.zero_le k) c5)).symm⟩
    have hkt:P.keyType k=true:=by
     unfold Program.keyType
     rw [hN]
     simp [Program.keyTypeAt,hk,hu8]
    have one:∀ i,i<n→P.keyLits (N+1) e ((((MK.a l).val.cells.toList).drop (i * P.cellsOf e)).take (P.cellsOf e))=some [Lit.int .u8 ((l.getD i 0).toNat:Int)]:=by
     intro i hi
     have e1:(((MK.a l).val.cells.toList).drop (i * P.cellsOf e)).take (P.cellsOf e)=[U (l.getD i 0)]:=by
      rw [hce,Nat.mul_one]
      show ((l.map U).drop i).take 1=_
      have hi' : i<(l.map U).length:=by simpa using (by omega:i<l.length)
      rw [List.drop_eq_getElem_cons hi']
      simp [List.getD_eq_getElem?_getD,List.getElem?_eq_getElem (show i<l.length by omega)]
     rw [e1]
     generalize l.getD i 0=u
     have hlt:=u.toNat_lt
     have hw:(Lit.int .u8 (u.toNat:Int)).wf=true:=by
      have h1:IntKind.u8.min=0:=by decide
      have h2:IntKind.u8.max=255:=by decide
      simp only [Lit.wf,h1,h2,Bool.and_eq_true,decide_eq_true_eq]
      omega
     unfold Program.keyLits
     rw [hu8]
     simp only [U]
     rw [if_pos ⟨trivial,hw⟩]
    have all:∀ L:List Nat,(∀ i∈L,i<n)→∃ ys,L.mapM (fun i=>P.keyLits (N+1) e ((((MK.a l).val.cells.toList).drop (i * P.cellsOf e)).take (P.cellsOf e)))=some ys:=by
     intro L
     induction L with
     | nil=>intro _; exact ⟨[],rfl⟩
     | cons i L ih =>
      intro hL
      obtain ⟨ys,hys⟩:=ih fun j hj=>hL j (by simp [hj])
      exact ⟨_,by rw [List.mapM_cons,one i (hL i (by simp)),hys]; rfl⟩
    obtain ⟨ys,hys⟩:=all (List.range n) fun i hi=>List.mem_range.1 hi
    have hf:(MK.a l).val.formed P k=true:=by
     simp [MK.val,Value.formed,hk,hck,hl]
    have hlits:P.keyLits (P.types.size+1) k (MK.a l).val.cells.toList=some ys.flatten:=by
     rw [hN]
     have hcl:((MK.a l).val.cells.toList).length=P.cellsOf k:=by rw [hck,← hl]; simp [MK.val,Value.cells]
     unfold Program.keyLits
     rw [hk]
     simp only
     rw [if_pos hcl,hys]; rfl
    exact ⟨.string (keyBytes ys.flatten),by unfold keyOf; simp [hk,hkt,hf,hlits]⟩
  ·cases h
 ·cases h
theorem zmOk_ok {e:TypeId} {i:TypeInfo} {zv:Value} (h:zmOk P e zv=true) (hi:P.info? e=some i) (hz:i.zero=some zv) (w:World) (S:Nat→Prop) (ρ:Rho):∃ us,Cs w S ρ (zvOf P e) us∧zv=wrapv (zvOf P e) us:=by
 unfold zmOk at h
 split at h
 ·rename_i fs ps h1 h2
  have hc:=zOf_ok h2 hi hz w S ρ
  have e1:zvOf P e=.agg ps:=by simp [zvOf,h1,h2]
  rw [e1]
  refine ⟨_,hc.cs,?_⟩
  cases zv <;> simp at h
  simp [wrapv,AV.multi,Value.cells]
 ·rename_i d s' x hs' h1 h2
  have hc:=zOf_ok h2 hi hz w S ρ
  obtain ⟨u1,u2,hu,hl,hx,hu2⟩:=hc
  obtain rfl:=hu2
  rw [List.append_nil] at hu
  have e1:zvOf P e=x:=by
   unfold zvOf
   rw [h1,h2]
   cases d <;> first | rfl | exact (hs' _ rfl).elim
  rw [e1]
  refine ⟨u1,hx,?_⟩
  rw [← hu]
  unfold wrapv
  cases zv <;> simp only [Bool.and_eq_true,Bool.not_eq_true'] at h <;> first | (rw [h.1]; rfl) | (rw [h]; simp [Value.cells]) | (simp [Value.oneCell'] at h)
 ·cases h
theorem slimCall_ok {c:Call} {ao:AOp} (h:slimCall P c=some ao):MtA P (.call c) ao:=by
 obtain ⟨cl,args,ats⟩:=c
 obtain ⟨args⟩:=args
 obtain ⟨ats⟩:=ats
 unfold slimCall at h
 split at h
 ·rename_i f hc
  simp only at hc; subst hc
  injection h with h; subst h
  exact ⟨_,_,rfl,rfl⟩
 ·rename_i g hc hg
  simp only at hg; subst hg
  injection h with h; subst h
  exact ⟨_,_,_,rfl,rfl,rfl⟩
 ·rename_i hc; simp only at hc; subst hc
  split at h
  ·rename_i x t ha ht
   simp only at ha ht; subst ha ht
   split at h
   ·rename_i hu; injection h with h; subst h; exact ⟨x,t,rfl,.inl hu,fun _=>hu,rfl⟩
   ·rename_i e hu; injection h with h; subst h; exact ⟨x,t,rfl,.inr ⟨e,hu⟩,fun _=>⟨e,hu⟩,rfl⟩
   ·rename_i n e hu; injection h with h; subst h; exact ⟨x,t,rfl,⟨e,hu⟩,fun hh=>(by cases hh),rfl⟩
   ·rename_i k e hu; injection h with h; subst h; exact ⟨t,k,e,x,rfl,hu,rfl⟩
   ·cases h
  ·cases h
 ·rename_i hc; simp only at hc; subst hc
  split at h
  ·rename_i x y t t' ha ht
   simp only at ha ht; subst ha ht
   split at h
   ·rename_i e; subst e
    split at h
    ·rename_i e sz by_ hs; injection h with h; subst h; exact ⟨t,x,y,rfl,slOk_ok hs,rfl,rfl⟩
    ·cases h
   ·split at h
    ·rename_i e h1 h2
     split at h
     ·rename_i i h3
      split at h
      ·rename_i h4
       split at h
       ·rename_i c; injection h with h; subst h; exact ⟨t,t',i,x,y,rfl,h1,h2,h3,h4,c.1,c.2,rfl,rfl⟩
       ·cases h
      ·cases h
     ·cases h
    ·cases h
  ·cases h
 ·rename_i hc; simp only at hc; subst hc
  split at h
  ·rename_i x y ha; simp only at ha; subst ha; injection h with h; subst h; exact ⟨x,y,_,rfl,rfl,rfl⟩
  ·cases h
 ·rename_i hc; simp only at hc; subst hc
  split at h
  ·rename_i x y ha; simp only at ha; subst ha; injection h with h; subst h; exact ⟨x,y,_,rfl,rfl,rfl⟩
  ·cases h
 ·cases h
theorem slimBuild_ok {t:TypeId} {ps:Array (Nat × Operand)} {ao:AOp} (h:slimBuild P t ps=some ao):MtA P (.build t ps) ao:=by
 unfold slimBuild at h
 split at h
 ·rename_i it fs h1 h2
  split at h
  ·rename_i z zs places h3 h4 h5
   obtain ⟨q,hq,rfl⟩:=Option.map_eq_some_iff.1 h
   refine ⟨t,ps,z.cells,(places.toArray[·]?),rfl,fun vs=>?_,zOf_ok h4 h1 h3,fun j=>?_⟩
   ·simp only [Program.built,h1,h2,h3,h5]
   ·obtain ⟨m1,m2⟩:=mapO_get hq
    cases hj:ps.toList[j]? with
    | none =>
     have:q[j]?=none:=List.getElem?_eq_none (by rw [m1]; exact List.getElem?_eq_none_iff.1 hj)
     rw [this]; rfl
    | some x =>
     obtain ⟨y,y1,y2⟩:=m2 j x hj
     obtain ⟨p,hp,rfl⟩:=Option.map_eq_some_iff.1 y2
     rw [y1]; simp [hp]
  ·cases h
 ·rename_i it n e h1 h2
  split at h
  ·rename_i z h3
   split at h
   ·rename_i c; injection h with h; subst h
    obtain ⟨ie,hie,hs⟩:=Option.map_eq_some_iff.1 c.1
    refine ⟨t,ps,rfl,fun vs=>?_,c.2,rfl⟩
    simp only [Program.built,h1,h2,h3,hie,hs]
   ·cases h
  ·cases h
 ·cases h
theorem slimNil_ok {op:BinOp} {k:Nat} {x y:Operand} {t t' : TypeId} {ao:AOp} (h:slimNil op k x (isNilO k y)=some ao) (ht:isNilO k y=true→NilT P t y k):MtA P (.binOp op t x y t') ao:=by
 unfold slimNil at h
 split at h
 ·rename_i c
  split at h
  ·injection h with h; subst h; exact ⟨_,_,_,_,rfl,ht c,rfl⟩
  ·injection h with h; subst h; exact ⟨_,_,_,_,rfl,ht c,rfl⟩
  ·cases h
 ·cases h
theorem slimEqF_ok : ∀ (d b n : Nat) (fl : List Field) (fs : List (Nat × Rt × Nat)), slimEqF P d b n fl = some fs → ∀ D, d ≤ D → EqFOk P D b n fl fs := by
 intro d
 induction d with
 | zero => intro b n fl fs h; cases h
 | succ d ih =>
  intro b n fl fs h D hD
  cases fl with
  | nil => injection h with h; subst h; exact .nil _ _ _
  | cons f r =>
   unfold slimEqF at h
   split at h
   ·cases h
   ·rename_i hn
    have hn' : f.name ≠ "_" := by simpa using hn
    split at h
    ·rename_i rt l h1 h2 h3
     split at h
     ·rename_i c; injection h with h; subst h
      exact .leaf _ _ _ f r rt 0 l hn' (rtOf_ok h1) c (by rw [if_pos rfl]; exact h2) (ih _ _ _ _ h3 _ (by omega))
     ·cases h
    ·rename_i rt k l h1 h2 h3
     split at h
     ·rename_i c; injection h with h; subst h
      exact .leaf _ _ _ f r rt 1 l hn' (rtOf_ok h1) c (by rw [if_neg (by omega), if_pos rfl]; exact ⟨_, h2⟩) (ih _ _ _ _ h3 _ (by omega))
     ·cases h
    ·rename_i rt k e l h1 h2 h3
     split at h
     ·rename_i c
      injection h with h; subst h
      exact .leaf _ _ _ f r rt k l hn' (rtOf_ok h1) c.2.2.2 (by rw [if_neg (by omega), if_neg (by omega)]; exact ⟨e, h2, isU8_ok c.2.1, c.2.2.1⟩) (ih _ _ _ _ h3 _ (by omega))
     ·cases h
    ·rename_i m fl' l h1 h2 h3
     split at h
     ·rename_i c
      obtain ⟨l1, hl1, rfl⟩ := Option.map_eq_some_iff.1 h
      have hfo : P.fieldsOf f.type = fl' := by unfold Program.fieldsOf; rw [h2]
      obtain ⟨D', rfl⟩ : ∃ D', D = D' + 1 := ⟨D - 1, by omega⟩
      exact .node _ _ _ f r m l1 l hn' (rtOf_ok h1) c.2 (by rw [hfo]; exact h2) c.1 (by rw [hfo]; exact ih _ _ _ _ hl1 _ (by omega)) (ih _ _ _ _ h3 _ (by omega))
     ·cases h
    ·cases h
theorem slimOp_ok {op:Op} {ao:AOp} (h:slimOp P op=some ao):MtA P op ao:=by
 unfold slimOp at h
 split at h
 ·injection h with h; subst h; exact ⟨_,rfl,rfl⟩
 ·injection h with h; subst h; exact ⟨_,.inl rfl,rfl⟩
 ·injection h with h; subst h; exact ⟨_,.inr rfl,rfl⟩
 ·injection h with h; subst h; exact ⟨_,_,_,rfl,rfl,rfl,rfl⟩
 ·split at h
  ·rename_i i h1
   split at h
   ·rename_i z h2
    obtain ⟨ps,hp,rfl⟩:=Option.map_eq_some_iff.1 h
    exact ⟨i,z,rfl,h1,h2,zOf_ok hp h1 h2⟩
   ·cases h
  ·cases h
 ·obtain ⟨sz,hs,rfl⟩:=Option.map_eq_some_iff.1 h; exact ⟨_,rfl,rfl⟩
 ·exact slimBuild_ok h
 ·rename_i t n ps
  split at h
  ·rename_i e sz by_ hs
   split at h
   ·rename_i c; injection h with h; subst h
    have hT:=slOk_ok hs
    obtain ⟨i,z,i1,i2,i3,i4,i5⟩:=hT.parts
    exact ⟨t,i,z,n,ps,rfl,hT.under,i1,i4,i2,c.1,c.2,rfl⟩
   ·cases h
  ·cases h
 ·obtain ⟨rt,hr,rfl⟩:=Option.map_eq_some_iff.1 h; exact ⟨_,_,rfl,rtOf_ok hr,rfl⟩
 ·obtain ⟨rt,hr,rfl⟩:=Option.map_eq_some_iff.1 h; exact ⟨_,_,_,rfl,rtOf_ok hr,rfl,rfl⟩
 ·injection h with h; subst h; exact ⟨_,rfl,rfl⟩
 ·split at h
  ·injection h with h; subst h; exact ⟨_,_,_,_,rfl,rfl,rfl⟩
  ·injection h with h; subst h; exact ⟨_,_,_,_,rfl,rfl,rfl⟩
  ·rename_i hu
   split at h
   ·injection h with h; subst h; exact ⟨_,_,_,_,rfl,hu,rfl,rfl⟩
   ·injection h with h; subst h; exact ⟨_,_,_,_,rfl,hu,rfl,rfl⟩
   ·cases h
  ·rename_i n e hu
   split at h
   ·rename_i c
    split at h
    ·injection h with h; subst h; exact ⟨_,_,_,_,e,rfl,hu,isU8_ok c.1,c.2.1,c.2.2,rfl,rfl⟩
    ·injection h with h; subst h; exact ⟨_,_,_,_,e,rfl,hu,isU8_ok c.1,c.2.1,c.2.2,rfl,rfl⟩
    ·cases h
   ·cases h
  ·rename_i fl hu
   have hfl:∀ t,P.underlying t=some (.struct fl)→P.fieldsOf t=fl:=fun t h=>by unfold Program.fieldsOf; rw [h]
   split at h
   ·rename_i fs hfs
    split at h
    ·rename_i c
     have hE:=slimEqF_ok _ _ _ _ _ hfs 9997 (by omega)
     split at h
     ·injection h with h; subst h; exact ⟨_,_,_,_,rfl,by rw [hfl _ hu]; exact hu,⟨_,by rw [hfl _ hu]; exact hE⟩,c.1,c.2.1,c.2.2,rfl,rfl⟩
     ·injection h with h; subst h; exact ⟨_,_,_,_,rfl,by rw [hfl _ hu]; exact hu,⟨_,by rw [hfl _ hu]; exact hE⟩,c.1,c.2.1,c.2.2,rfl,rfl⟩
     ·cases h
    ·cases h
   ·cases h
  ·rename_i hu
   refine slimNil_ok h fun c=>⟨by unfold Program.methodsAt; rw [hu],?_⟩
   unfold isNilO at c; split at c <;> first | rfl | (exfalso; omega) | cases c
  ·rename_i hu
   refine slimNil_ok h fun c=>⟨by unfold Program.pointee; rw [hu],?_⟩
   unfold isNilO at c; split at c <;> first | rfl | (exfalso; omega) | cases c
  ·rename_i hu
   refine slimNil_ok h fun c=>⟨⟨_,hu⟩,?_⟩
   unfold isNilO at c; split at c <;> first | rfl | (exfalso; omega) | cases c
  ·cases h
 ·injection h with h; subst h; exact ⟨_,_,rfl,rfl⟩
 ·split at h
  ·rename_i h1 h2; injection h with h; subst h; exact ⟨_,_,_,rfl,by rw [h1]; rfl,h2,rfl⟩
  ·rename_i h1 h2; injection h with h; subst h; exact ⟨_,_,_,rfl,h1,h2,rfl⟩
  ·rename_i h1 h2
   split at h
   ·rename_i c; injection h with h; subst h; exact ⟨_,_,_,_,rfl,h1,isU8_ok c,h2,rfl⟩
   ·cases h
  ·rename_i h1 h2
   split at h
   ·rename_i c; injection h with h; subst h; exact ⟨_,_,_,rfl,h1,h2,isU8_ok c,rfl⟩
   ·cases h
  ·rename_i h1 h2
   split at h
   ·rename_i c; obtain ⟨c1,rfl⟩:=c; injection h with h; subst h; exact ⟨_,_,_,rfl,h1,isU8_ok c1,rfl⟩
   ·cases h
  ·cases h
 ·split at h
  ·rename_i c; injection h with h; subst h; exact ⟨_,rfl,c,rfl⟩
  ·cases h
 ·injection h with h; subst h; exact ⟨_,_,rfl,rfl,rfl⟩
 ·split at h
  ·rename_i e h1
   split at h
   ·rename_i i h2
    split at h
    ·rename_i z h3
     split at h
     ·rename_i c; injection h with h; subst h; exact ⟨_,i,z,_,_,rfl,h1,h2,c.1,rfl,rfl,h3,c.2,rfl,rfl,rfl⟩
     ·cases h
    ·cases h
   ·cases h
  ·cases h
 ·split at h
  ·rename_i h1; injection h with h; subst h; exact ⟨_,_,_,_,rfl,h1,rfl,rfl,rfl⟩
  ·rename_i e h1; obtain ⟨sz,hs,rfl⟩:=Option.map_eq_some_iff.1 h; exact ⟨_,e,_,_,_,rfl,h1,hs,rfl,rfl,rfl⟩
  ·rename_i n e h1
   split at h
   ·rename_i c; injection h with h; subst h; exact ⟨_,e,_,_,_,rfl,h1,c,rfl,rfl,rfl⟩
   ·cases h
  ·cases h
 ·split at h
  ·rename_i fs h1
   split at h
   ·rename_i f h2
    split at h
    ·rename_i n h3
     split at h
     ·cases h
     ·rename_i c; injection h with h; subst h
      obtain ⟨i,hi1,hi2⟩:=Option.map_eq_some_iff.1 h3
      exact ⟨_,fs,_,f,_,rfl,h1,h2,rfl,by rw [hi1]; simp only [Option.map_some,hi2]; rw [decide_eq_false c],rfl⟩
    ·cases h
   ·cases h
  ·cases h
 ·split at h
  ·rename_i fs h1
   split at h
   ·rename_i f h2
    obtain ⟨rt,hr,rfl⟩:=Option.map_eq_some_iff.1 h
    exact ⟨_,fs,_,f,_,rfl,h1,h2,rfl,rtOf_ok hr,rfl⟩
   ·cases h
  ·cases h
 ·split at h
  ·rename_i e h1; obtain ⟨sz,hs,rfl⟩:=Option.map_eq_some_iff.1 h; exact ⟨_,e,_,_,rfl,h1,hs,rfl,rfl⟩
  ·rename_i n e h1
   split at h
   ·rename_i c; injection h with h; subst h; exact ⟨_,e,_,_,rfl,h1,c,rfl,rfl⟩
   ·cases h
  ·cases h
 ·split at h
  ·rename_i h1; injection h with h; subst h; exact ⟨_,_,_,rfl,h1,rfl,rfl⟩
  ·rename_i n e h1
   split at h
   ·rename_i c; injection h with h; subst h
    simp only [one1,Bool.and_eq_true,decide_eq_true_eq] at c
    exact ⟨_,e,_,_,rfl,h1,c.2,c.1,rfl,rfl⟩
   ·cases h
  ·cases h
 ·injection h with h; subst h; exact ⟨_,rfl,rfl⟩
 ·split at h
  ·rename_i n e h1; injection h with h; subst h; exact ⟨_,e,_,rfl,h1,rfl⟩
  ·cases h
 ·split at h
  ·cases h
  ·rename_i u h1 h2
   injection h with h; subst h
   refine ⟨_,_,u,rfl,h2,?_,rfl⟩
   cases u <;> first | rfl | exact absurd rfl (h1 _)
  ·cases h
 ·split at h
  ·obtain ⟨ks,_,rfl⟩:=Option.map_eq_some_iff.1 h; exact ⟨_,rfl⟩
  ·cases h
 ·split at h
  ·rename_i k e h1
   split at h
   ·rename_i ks i h2 h3
    split at h
    ·rename_i zv h4
     split at h
     ·rename_i c; injection h with h; subst h
      exact ⟨_,k,e,i,zv,_,_,rfl,h1,ksOf_ok h2,h3,h4,zmOk_ok c h3 h4,rfl,rfl⟩
     ·cases h
    ·cases h
   ·cases h
  ·cases h
 ·split at h
  ·rename_i k e h1
   obtain ⟨ks,h2,rfl⟩:=Option.map_eq_some_iff.1 h
   exact ⟨_,k,e,_,_,_,rfl,h1,ksOf_ok h2,rfl,rfl,rfl⟩
  ·cases h
 ·exact slimCall_ok h
 ·cases h
def dstOk (N:Nat):Option Tmp→Bool
 | some t=>decide (t<N)
 | none=>true
def slimOper (P:Program) (N:Nat) (ops:Array Oper) (o:Oper):Option AOper :=
 match slimOp P o.op with
 | some ao=>if dstOk N o.dst=true then match o.guard with
  | none=>some ⟨o.dst,ao,none⟩
  | some (g,b)=>match (ops[g]?).bind (·.dst) with
   | some t=>if t<N then some ⟨o.dst,ao,some (t,b)⟩ else none
   | none=>none else none
 | none=>none
theorem slimOper_ok {N:Nat} {ops:Array Oper} {o:Oper} {ao:AOper} (h:slimOper P N ops o=some ao):MtO P N ops o ao:=by
 unfold slimOper at h
 split at h
 ·rename_i a ha
  split at h
  ·rename_i hd
   have hd' : ∀ t,o.dst=some t→t<N:=by
    intro t ht; rw [ht] at hd; exact of_decide_eq_true hd
   split at h
   ·rename_i hg; injection h with h; subst h
    exact ⟨rfl,slimOp_ok ha,hd',by rw [hg]; trivial⟩
   ·rename_i g b hg
    split at h
    ·rename_i t ht
     split at h
     ·rename_i htN; injection h with h; subst h
      exact ⟨rfl,slimOp_ok ha,hd',by rw [hg]; exact ⟨rfl,ht,htN⟩⟩
     ·cases h
    ·cases h
  ·cases h
 ·cases h
theorem all2_mapO {α β:Type} {R:α→β→Prop} {f:α→Option β} (hf:∀ a b,f a=some b→R a b):∀ {l:List α} {m:List β},mapO f l=some m→All2 R l m:=by
 intro l
 induction l with
 | nil=>intro m h; simp only [mapO,Option.some.injEq] at h; subst h; trivial
 | cons a l ih =>
  intro m h
  simp only [mapO] at h
  split at h
  ·rename_i b bs hb hbs; injection h with h; subst h; exact ⟨hf _ _ hb,ih hbs⟩
  ·cases h
def pureO (o:AOper):AOper :=
 match o.op with
 | .call f args=>⟨o.dst,.callP f args,o.grd⟩
 | _=>o
theorem pureO_ok {N:Nat} {ops:Array Oper} {o:Oper} {ao:AOper} (h:MtO P N ops o ao):MtO P N ops o (pureO ao):=by
 obtain ⟨d,op,g⟩:=ao
 cases op <;> exact h
theorem all2_map {α β:Type} {R:α→β→Prop} {f:β→β} (hf:∀ a b,R a b→R a (f b)):∀ {l:List α} {m:List β},All2 R l m→All2 R l (m.map f):=by
 intro l
 induction l with
 | nil=>intro m h; cases m with | nil=>trivial | cons=>exact h.elim
 | cons a l ih =>
  intro m h
  cases m with
  | nil=>exact h.elim
  | cons b m=>exact ⟨hf _ _ h.1,ih h.2⟩
def slimC (pr:Bool) (P:Program) (N:Nat):Code→Option ACode
 | .skip=>some .skip
 | .label _=>some .skip
 | .region _ ops false=>(mapO (slimOper P N ops) ops.toList).map (.reg none)
 | .region _ ops true=>match mapO (slimOper P N ops) ops.toList with
  | some l=>match drawHidG pr P ops l with
   | some hid=>some (.reg (some hid) l)
   | none=>if pr then (anyHid P ops l).map fun hid=>.reg (some hid) l else (drawHidG false P ops (l.map pureO)).map fun hid=>.reg (some hid) (l.map pureO)
  | none=>none
 | .seq x y=>match slimC pr P N x,slimC pr P N y with
  | some x',some y' => some (.seq x' y')
  | _,_=>none
 | .cond c x y=>match slimC pr P N x,slimC pr P N y with
  | some x',some y' => some (.cond (opd c) x' y')
  | _,_=>none
 | .block i c=>(slimC pr P N c).map (.block i)
 | .loop c=>(slimC pr P N c).map .loop
 | .exit i=>some (.exit i)
 | .ret=>some .ret
 | .scope c=>(slimC pr P N c).map .scope
 | _=>none
theorem slimC_ok {pr:Bool} {N:Nat}:∀ {code:Code} {ac:ACode},slimC pr P N code=some ac→MtC P N code ac:=by
 intro code
 induction code with
 | skip=>intro ac h; simp only [slimC,Option.some.injEq] at h; subst h; trivial
 | label l=>intro ac h; simp only [slimC,Option.some.injEq] at h; subst h; trivial
 | region id ops draw =>
  intro ac h
  cases draw with
  | false =>
   simp only [slimC] at h
   obtain ⟨l,hl,rfl⟩:=Option.map_eq_some_iff.1 h
   exact all2_mapO (fun _ _=>slimOper_ok) hl
  | true =>
   simp only [slimC] at h
   split at h
   ·rename_i l hl
    split at h
    ·rename_i hid hh
     injection h with h; subst h
     exact ⟨all2_mapO (fun _ _=>slimOper_ok) hl,by rw [(drawHidG_ok hh).1,if_neg Bool.false_ne_true]; exact (drawHidG_ok hh).2⟩
    ·split at h
     ·obtain ⟨hid,hh,rfl⟩:=Option.map_eq_some_iff.1 h
      exact ⟨all2_mapO (fun _ _=>slimOper_ok) hl,by rw [(anyHid_ok hh).1,if_pos rfl]; exact (anyHid_ok hh).2⟩
     ·obtain ⟨hid,hh,rfl⟩:=Option.map_eq_some_iff.1 h
      exact ⟨all2_map (fun _ _=>pureO_ok) (all2_mapO (fun _ _=>slimOper_ok) hl),by rw [(drawHidG_ok hh).1,if_neg Bool.false_ne_true]; exact (drawHidG_ok hh).2⟩
   ·cases h
 | seq x y ihx ihy =>
  intro ac h
  simp only [slimC] at h
  split at h
  ·rename_i x' y' h1 h2; injection h with h; subst h; exact ⟨ihx h1,ihy h2⟩
  ·cases h
 | cond c x y ihx ihy =>
  intro ac h
  simp only [slimC] at h
  split at h
  ·rename_i x' y' h1 h2; injection h with h; subst h; exact ⟨rfl,ihx h1,ihy h2⟩
  ·cases h
 | block i c ih=>intro ac h; simp only [slimC] at h; obtain ⟨c',hc,rfl⟩:=Option.map_eq_some_iff.1 h; exact ⟨rfl,ih hc⟩
 | loop c ih=>intro ac h; simp only [slimC] at h; obtain ⟨c',hc,rfl⟩:=Option.map_eq_some_iff.1 h; exact ih hc
 | exit i=>intro ac h; simp only [slimC,Option.some.injEq] at h; subst h; rfl
 | ret=>intro ac h; simp only [slimC,Option.some.injEq] at h; subst h; trivial
 | scope c ih=>intro ac h; simp only [slimC] at h; obtain ⟨c',hc,rfl⟩:=Option.map_eq_some_iff.1 h; exact ih hc
 | _=>intro ac h; cases h
def slimR (P:Program):ResultVar→Option ARes
 | .tmp t=>some (.t t)
 | .cell a t=>(rtOf P t).map (.c a)
theorem slimR_ok {r:ResultVar} {a:ARes} (h:slimR P r=some a):MtR P r a:=by
 cases r with
 | tmp t=>simp only [slimR,Option.some.injEq] at h; subst h; rfl
 | cell b t=>simp only [slimR] at h; obtain ⟨rt,hr,rfl⟩:=Option.map_eq_some_iff.1 h; exact ⟨rfl,rtOf_ok hr⟩
def slimG (pr:Bool) (P:Program) (fn:Func):Option (ACode × List ARes) :=
 match fn.body with
 | some c=>match slimC pr P fn.ntmps c,mapO (slimR P) fn.results.toList with
  | some ac,some rs=>some (ac,rs)
  | _,_=>none
 | none=>none
def slimF (P:Program) (fn:Func):Option (ACode × List ARes):=slimG false P fn
theorem fn_slimG {pr:Bool} {Φ:Phi} {f:FuncId} {fn:Func} {ac:ACode} {rs:List ARes} {sp:Spec} (hf:P.funcs[f]?=some fn) (hs:slimG pr P fn=some (ac,rs)) (hΦ:PhiOk P Φ)
  (h:∀ «as» hp r,sp «as» hp=some r→r.pre→«as».length≤fn.ntmps∧awp Φ hp.length ac (retQ rs hp.length r) ⟨slots 0 «as»,hp⟩):FnOk P f sp:=by
 unfold slimG at hs
 split at hs
 ·rename_i c hc
  split at hs
  ·rename_i ac' rs' h1 h2
   simp only [Option.some.injEq,Prod.mk.injEq] at hs
   obtain ⟨rfl,rfl⟩:=hs
   exact fn_ok hf hc (slimC_ok h1) (all2_mapO (fun _ _=>slimR_ok) h2) hΦ h
  ·cases hs
 ·cases hs
theorem fn_slim {Φ:Phi} {f:FuncId} {fn:Func} {ac:ACode} {rs:List ARes} {sp:Spec} (hf:P.funcs[f]?=some fn) (hs:slimF P fn=some (ac,rs)) (hΦ:PhiOk P Φ)
  (h:∀ «as» hp r,sp «as» hp=some r→r.pre→«as».length≤fn.ntmps∧awp Φ hp.length ac (retQ rs hp.length r) ⟨slots 0 «as»,hp⟩):FnOk P f sp:=fn_slimG hf hs hΦ h
end
end Go.Proofs.YtakolikdebfkeaaDoor
namespace Go.Proofs.YtakolikdebfkeaaDoor
open Go.RowKit
def phiL:List (FuncId × List Bool × Spec)→Phi
 | [],_=>none
 | (g,ms) :: r,f=>if g=f then some ms else phiL r f
def fnInB (P : Program) (f : FuncId) : Bool :=
 match P.funcs[f]? with
 | some fn => !(fn.name == "runtime.NumGoroutine") && !fn.body.isNone
 | none => false
section
variable {P : Program}
theorem fnInB_ok {f:FuncId} (h:fnInB P f=true):FnIn P f:=by
 unfold fnInB at h
 split at h
 ·rename_i fn hf
  simp only [Bool.and_eq_true,Bool.not_eq_true'] at h
  exact ⟨fn,hf,h.1,h.2⟩
 ·cases h
theorem phi_nil:PhiOk P (phiL []):=fun _ _ _ h=>by cases h
theorem phi_cons {f:FuncId} {m:List Bool} {sp:Spec} {l:List (FuncId × List Bool × Spec)} (h:FnOk P f sp) (hf:fnInB P f=true) (hl:PhiOk P (phiL l)):PhiOk P (phiL ((f,m,sp) :: l)):=by
 intro g m' sp' hg
 simp only [phiL] at hg
 split at hg
 ·rename_i e; subst e; injection hg with hg; injection hg with e1 e2; subst e1 e2
  exact ⟨h,fnInB_ok hf⟩
 ·exact hl g m' sp' hg
end
end Go.Proofs.YtakolikdebfkeaaDoor
namespace Go.Proofs.YtakolikdebfkeaaDoor
open Go.RowKit
theorem len_le {n m:Nat} (h:Nat.ble n m=true):n≤m:=Nat.le_of_ble_eq_true h
section
variable {m : Nat} {B : (Exit → St → Prop) → St → Prop} {Q : Exit → St → Prop} {s : St}
open Classical in
theorem loopQ_atI {α:Type} (nils:List (Nat × TypeId × Nat)) (sl ids:List Nat) (st:α→St) (Inv:α→Prop) (μ:α→Nat) (a0:α) (hk:ent nils sl ids s=some (st a0)) (h0:Inv a0) (hm:nodupB ids=true∧ids.take m=List.range m)
  (h:∀ a,Inv a→B (thenQ (fun s' => ∃ nils' ids' a',nodupB ids' = true∧ids'.take m=List.range m∧Inv a' ∧ μ a' < μ a∧ent nils' sl ids' s' = some (st a')) Q) (st a))
  (mono:∀ (K K' : Exit→St→Prop),(∀ e s,K e s→K' e s)→∀ s,B K s→B K' s):loopQ m B Q s:=by
 have least:∀ s,(∃ a,Inv a∧st a=s)→∃ a,Inv a∧st a=s∧∀ a',Inv a' → st a' = s→μ a≤μ a' := by
  intro s hs
  obtain ⟨a,ha,hs⟩:=hs
  generalize hk:μ a=k
  induction k using Nat.strongRecOn generalizing a with
  | _ k ih =>
   by_cases hex:∃ a',Inv a' ∧ st a' = s∧μ a' < k
   ·obtain ⟨a',h1,h2,h3⟩:=hex
    exact ih (μ a') h3 a' h1 h2 rfl
   ·refine ⟨a,ha,hs,fun a' h1 h2=>?_⟩
    rw [hk]
    exact Nat.le_of_not_lt fun hlt=>hex ⟨a',h1,h2,hlt⟩
 obtain ⟨M,hM1,hM2⟩:∃ M:St→Nat,(∀ s,(∃ a,Inv a∧st a=s)→∃ a,Inv a∧st a=s∧M s=μ a)∧∀ a,Inv a→M (st a)≤μ a:=by
  refine ⟨fun s=>if h:∃ a,Inv a∧st a=s then μ (least s h).choose else 0,fun s hs=>?_,fun a ha=>?_⟩
  ·obtain ⟨c1,c2,c3⟩:=(least s hs).choose_spec
   refine ⟨_,c1,c2,?_⟩
   simp only [dif_pos hs]
  ·have hs:∃ a',Inv a' ∧ st a' = st a:=⟨a,ha,rfl⟩
   obtain ⟨c1,c2,c3⟩:=(least _ hs).choose_spec
   simp only [dif_pos hs]
   exact c3 a ha rfl
 refine ⟨nils,sl,ids,fun s=>∃ a,Inv a∧st a=s,M,hm.1,hm.2,⟨_,hk,a0,h0,rfl⟩,fun s hs=>?_⟩
 ·obtain ⟨a,ha,has,hμ⟩:=hM1 s hs
  rw [hμ]
  subst has
  refine mono _ _ (fun e s' hq=>?_) _ (h a ha)
  cases e with
  | normal =>
   obtain ⟨nils',ids',a',k1,k2,h1,h2,h3⟩:=hq
   exact ⟨nils',ids',_,k1,k2,h3,⟨a',h1,rfl⟩,Nat.lt_of_le_of_lt (hM2 a' h1) h2⟩
  | _=>exact hq
theorem loopQ_at {α:Type} (nils:List (Nat × TypeId × Nat)) (sl ids:List Nat) (st:α→St) (Inv:α→Prop) (μ:α→Nat) (a0:α) (hk:ent nils sl ids s=some (st a0)) (h0:Inv a0) (hm:nodupB ids=true∧ids.take m=List.range m)
  (h:∀ a,Inv a→B (thenQ (fun s' => ∃ a',Inv a' ∧ μ a' < μ a∧kp sl ids.length s' = some (st a')) Q) (st a))
  (mono:∀ (K K' : Exit→St→Prop),(∀ e s,K e s→K' e s)→∀ s,B K s→B K' s):loopQ m B Q s :=
 loopQ_atI nils sl ids st Inv μ a0 hk h0 hm (fun a ha=>mono _ _ (fun e s' hq=>by
  cases e with
  | normal =>
   obtain ⟨a',h1,h2,h3⟩:=hq
   have hmn:m≤ids.length:=by
    have:=congrArg List.length hm.2
    simp only [List.length_take,List.length_range] at this; omega
   exact ⟨[],List.range ids.length,a',nodup_range _,by rw [List.take_range,Nat.min_eq_left hmn],h1,h2,h3⟩
  | _=>exact hq) _ (h a ha)) mono
end
theorem aq_mono {r:Option (AV × List AObj × Prop)} {s:St} {d:Option Nat} {K K' : St→Prop} (h:∀ s,K s→K' s) (hq:aq r s d K):aq r s d K' := by
 cases r with
 | none=>exact hq
 | some r=>exact ⟨hq.1,h _ hq.2⟩
theorem arun_mono {Φ:Phi}:∀ (l:List AOper) (s:St) (K K' : St→Prop),(∀ s,K s→K' s)→arun Φ l K s→arun Φ l K' s:=by
 intro l
 induction l with
 | nil=>intro s K K' h hk; exact h _ hk
 | cons o r ih =>
  intro s K K' h hk
  rw [arun_eq] at hk ⊢
  split
  ·rename_i hg; rw [hg] at hk; exact aq_mono (fun s' hs=>ih _ _ _ h hs) hk
  ·rename_i t b hg
   rw [hg] at hk
   exact gdQ_mono hk (aq_mono fun s' hs=>ih _ _ _ h hs) (fun y=>ih _ _ _ h)
theorem arunD_mono {Φ:Phi}:∀ (hs:Hid1) (l:List AOper) (ls:List Nat) (s:St) (K K' : St→Prop),(∀ s,K s→K' s)→arunD Φ hs l ls K s→arunD Φ hs l ls K' s:=by
 intro hs l
 induction l generalizing hs with
 | nil=>intro ls s K K' h hk; cases hs <;> exact h _ hk
 | cons o r ih =>
  intro ls s K K' h hk
  cases hs with
  | nil=>exact (show False from by obtain ⟨d,op,g⟩:=o; cases g <;> exact hk).elim
  | cons hd hs =>
   rw [arunD_eq] at hk ⊢
   split
   ·rename_i hg; rw [hg] at hk; exact aq_mono (fun s' hs' => ih _ _ _ _ _ h hs') hk
   ·rename_i t b hg
    rw [hg] at hk
    exact gdQ_mono hk (aq_mono fun s' hs' => ih _ _ _ _ _ h hs') (fun y=>ih _ _ _ _ _ h)
theorem awp_mono {Φ:Phi} {m:Nat}:∀ (c:ACode) (Q Q' : Exit→St→Prop),(∀ e s,Q e s→Q' e s)→∀ s,awp Φ m c Q s→awp Φ m c Q' s:=by
 intro c
 induction c with
 | skip=>intro Q Q' h s hq; exact h _ _ hq
 | reg hid l =>
  intro Q Q' h s hq
  cases hid with
  | none=>exact arun_mono l s _ _ (fun s=>h _ s) hq
  | some hid =>
   simp only [awp] at hq ⊢
   split
   ·rename_i hh; rw [if_pos hh] at hq; exact allD_mono (fun s=>h _ s) _ _ _ hq
   ·rename_i hh; rw [if_neg hh] at hq; exact arunD_mono hid l _ s _ _ (fun s=>h _ s) hq
 | seq x y ihx ihy =>
  intro Q Q' h s hq
  refine ihx _ _ (fun e s hs=>?_) s hq
  cases e <;> first | exact ihy _ _ h s hs | exact h _ _ hs
 | cond c x y ihx ihy =>
  intro Q Q' h s hq
  simp only [awp,condQ] at hq ⊢
  split
  ·rename_i b hb; rw [hb] at hq; exact ⟨fun e=>ihx _ _ h s (hq.1 e),fun e=>ihy _ _ h s (hq.2 e)⟩
  ·rename_i hn
   split at hq
   ·rename_i b hb; exact absurd hb (hn b)
   ·exact hq
 | block id c ih =>
  intro Q Q' h s hq
  refine ih _ _ (fun e s hs=>?_) s hq
  cases e <;> simp only [inQ] at hs ⊢ <;> first | exact h _ _ hs | (split <;> rename_i e <;> simp only [e,if_true,if_false] at hs <;> exact h _ _ hs)
 | loop c ih =>
  intro Q Q' h s hq
  obtain ⟨nils,sl,ids,I,μ,hm,hm2,h0,hr⟩:=hq
  refine ⟨nils,sl,ids,I,μ,hm,hm2,h0,fun s hs=>ih _ _ (fun e s' hs' => ?_) s (hr s hs)⟩
  cases e <;> first | exact hs' | exact h _ _ hs'
 | exit i=>intro Q Q' h s hq; exact h _ _ hq
 | ret=>intro Q Q' h s hq; exact h _ _ hq
 | scope c ih=>intro Q Q' h s hq; exact ih _ _ (fun e s hs=>by cases e <;> first | exact hs.elim | exact h _ _ hs) s hq
theorem loop_at {Φ:Phi} {m:Nat} {c:ACode} {Q:Exit→St→Prop} {s:St} {α:Type} (nils:List (Nat × TypeId × Nat)) (sl ids:List Nat) (st:α→St) (Inv:α→Prop) (μ:α→Nat) (a0:α) (hk:ent nils sl ids s=some (st a0)) (h0:Inv a0) (hm:nodupB ids=true∧ids.take m=List.range m)
  (h:∀ a,Inv a→awp Φ m c (thenQ (fun s' => ∃ a',Inv a' ∧ μ a' < μ a∧kp sl ids.length s' = some (st a')) Q) (st a)):loopQ m (awp Φ m c) Q s :=
 loopQ_at nils sl ids st Inv μ a0 hk h0 hm h (fun K K' hh s hs=>awp_mono c K K' hh s hs)
end Go.Proofs.YtakolikdebfkeaaDoor
namespace Go.Proofs.YtakolikdebfkeaaDoor
open Go.RowKit
def isB (x:AV) (b:Bool):Prop:=x=.bool b
noncomputable instance isBD (x:AV) (b:Bool):Decidable (isB x b):=Classical.propDecidable _
theorem isB_t:isB (.bool true) true=True:=eq_true rfl
theorem isB_u:isB (.bool true) false=False:=eq_false (fun h=>by cases h)
theorem isB_f:isB (.bool false) false=True:=eq_true rfl
theorem isB_g:isB (.bool false) true=False:=eq_false (fun h=>by cases h)
theorem isB_p (b:Bool):isB (.tup []) b=False:=eq_false (fun h=>by cases h)
def isU (x:AV):Prop:=x=.tup []
noncomputable instance isUD (x:AV):Decidable (isU x):=Classical.propDecidable _
theorem isU_t:isU (.tup [])=True:=eq_true rfl
theorem isU_b {c:Bool}:isU (.bool c)=False:=eq_false (fun h=>by cases h)
theorem ifB_t {c:Bool} {p q:Prop} {i1:Decidable (isB (.bool c) true)} {i2:Decidable (isB (.bool c) false)}:(@ite _ (isB (.bool c) true) i1 p (@ite _ (isB (.bool c) false) i2 q False))=((c=true→p)∧(c=false→q)):=by
 cases c with
 | true=>rw [if_pos (show isB (.bool true) true from rfl)]; exact propext ⟨fun h=>⟨fun _=>h,nofun⟩,fun h=>h.1 rfl⟩
 | false=>rw [if_neg (fun h=>by cases h),if_pos (show isB (.bool false) false from rfl)]; exact propext ⟨fun h=>⟨nofun,fun _=>h⟩,fun h=>h.2 rfl⟩
theorem ifB_f {c:Bool} {p q:Prop} {i1:Decidable (isB (.bool c) true)} {i2:Decidable (isB (.bool c) false)}:(@ite _ (isB (.bool c) false) i2 p (@ite _ (isB (.bool c) true) i1 q False))=((c=false→p)∧(c=true→q)):=by
 cases c with
 | false=>rw [if_pos (show isB (.bool false) false from rfl)]; exact propext ⟨fun h=>⟨fun _=>h,nofun⟩,fun h=>h.1 rfl⟩
 | true=>rw [if_neg (fun h=>by cases h),if_pos (show isB (.bool true) true from rfl)]; exact propext ⟨fun h=>⟨nofun,fun _=>h⟩,fun h=>h.2 rfl⟩
theorem gdQ_t {x:AV} {p:Prop} {q:AV→Prop}:gdQ x true p q=if isB x true then p else if isB x false then q (.bool false) else if isU x then q (.tup []) else False:=by
 cases x
 case bool c =>
  rw [if_neg (show ¬ isU (.bool c) from fun h=>by cases h)]; exact ifB_t.symm
 case tup l =>
  rw [if_neg (fun h=>by cases h),if_neg (fun h=>by cases h)]
  cases l with
  | nil=>rw [if_pos (show isU (.tup []) from rfl)]; rfl
  | cons a l=>rw [if_neg (fun h=>by cases h)]; rfl
 all_goals rw [if_neg (fun h=>by cases h),if_neg (fun h=>by cases h),if_neg (fun h=>by cases h)]; rfl
theorem gdQ_f {x:AV} {p:Prop} {q:AV→Prop}:gdQ x false p q=if isB x false then p else if isB x true then q (.bool true) else if isU x then q (.tup []) else False:=by
 cases x
 case bool c =>
  rw [if_neg (show ¬ isU (.bool c) from fun h=>by cases h)]; exact ifB_f.symm
 case tup l =>
  rw [if_neg (fun h=>by cases h),if_neg (fun h=>by cases h)]
  cases l with
  | nil=>rw [if_pos (show isU (.tup []) from rfl)]; rfl
  | cons a l=>rw [if_neg (fun h=>by cases h)]; rfl
 all_goals rw [if_neg (fun h=>by cases h),if_neg (fun h=>by cases h),if_neg (fun h=>by cases h)]; rfl
theorem condQ_if {x:AV} {p q:Prop}:condQ x p q=if isB x true then p else if isB x false then q else False:=by
 cases x
 case bool c=>exact ifB_t.symm
 all_goals rw [if_neg (fun h=>by cases h),if_neg (fun h=>by cases h)]; rfl
section
variable {Φ : Phi} {m id : Nat} {Q : Exit → St → Prop} {K : St → Prop} {s : St} {x y c : ACode} {l r : List AOper} {hid hs : Hid1} {h : Nat × Bool} {d : Option Nat} {op : AOp} {t : Nat} {b : Bool} {lens : List Nat} {cc : Opd}
theorem phiL_nil {f:FuncId}:phiL [] f=none:=rfl
theorem phiL_at {g f:FuncId} {ms:List Bool × Spec} {r:List (FuncId × List Bool × Spec)}:phiL ((g,ms) :: r) f=if g=f then some ms else phiL r f:=rfl
theorem awp_skip:awp Φ m .skip Q s=Q .normal s:=rfl
theorem awp_reg:awp Φ m (.reg none l) Q s=arun Φ l (Q .normal) s:=rfl
theorem awp_draw {z:Nat × Bool}:awp Φ m (.reg (some (z :: hs)) l) Q s=if z.1=1000 then allD Φ (hs.map Prod.fst) l (Q .normal) l.length 0 s else arunD Φ (z :: hs) l [] (Q .normal) s:=by
 obtain ⟨n,b⟩:=z
 simp only [awp,isAny,beq_iff_eq,depsOf,List.tail_cons]; rfl
theorem awp_seq:awp Φ m (.seq x y) Q s=awp Φ m x (thenQ (awp Φ m y Q) Q) s:=rfl
theorem awp_cond:awp Φ m (.cond cc x y) Q s=if isB (s.ev cc) true then awp Φ m x Q s else if isB (s.ev cc) false then awp Φ m y Q s else False:=condQ_if
theorem awp_block:awp Φ m (.block id c) Q s=awp Φ m c (inQ id Q) s:=rfl
theorem awp_loop:awp Φ m (.loop c) Q s=loopQ m (awp Φ m c) Q s:=rfl
theorem awp_exit:awp Φ m (.exit id) Q s=Q (.exit id) s:=rfl
theorem awp_ret:awp Φ m .ret Q s=Q .ret s:=rfl
theorem awp_scope {c:ACode}:awp Φ m (.scope c) Q s=awp Φ m c (noG Q) s:=rfl
theorem noG_n:noG Q .normal s=Q .normal s:=rfl
theorem noG_r:noG Q .ret s=Q .ret s:=rfl
theorem noG_x {i:Nat}:noG Q (.exit i) s=Q (.exit i) s:=rfl
theorem arun_nil:arun Φ [] K s=K s:=rfl
theorem arun_op:arun Φ (⟨d,op,none⟩ :: r) K s=aq (astep Φ s op) s d (arun Φ r K):=rfl
theorem arun_gt:arun Φ (⟨d,op,some (t,true)⟩ :: r) K s=if isB (lk s.fr t) true then aq (astep Φ s op) (s.pin t true) d (arun Φ r K) else if isB (lk s.fr t) false then arun Φ r K ((s.pin t false).put d (.tup []) s.hp) else if isU (lk s.fr t) then arun Φ r K ((s.pinV t (.tup [])).put d (.tup []) s.hp) else False:=gdQ_t
theorem arun_gf:arun Φ (⟨d,op,some (t,false)⟩ :: r) K s=if isB (lk s.fr t) false then aq (astep Φ s op) (s.pin t false) d (arun Φ r K) else if isB (lk s.fr t) true then arun Φ r K ((s.pin t true).put d (.tup []) s.hp) else if isU (lk s.fr t) then arun Φ r K ((s.pinV t (.tup [])).put d (.tup []) s.hp) else False:=gdQ_f
theorem arunD_nil:arunD Φ hs [] lens K s=K s:=by cases hs <;> rfl
theorem arunD_op:arunD Φ (h :: hs) (⟨d,op,none⟩ :: r) lens K s=aq (exD Φ h ⟨d,op,none⟩ (lens ++ [s.hp.length]) s) s d (arunD Φ hs r (lens ++ [s.hp.length]) K):=rfl
theorem arunD_gt:arunD Φ (h :: hs) (⟨d,op,some (t,true)⟩ :: r) lens K s=if isB (lk s.fr t) true then aq (exD Φ h ⟨d,op,some (t,true)⟩ (lens ++ [s.hp.length]) s) (s.pin t true) d (arunD Φ hs r (lens ++ [s.hp.length]) K) else if isB (lk s.fr t) false then arunD Φ hs r (lens ++ [s.hp.length]) K ((s.pin t false).put d (.tup []) s.hp) else if isU (lk s.fr t) then arunD Φ hs r (lens ++ [s.hp.length]) K ((s.pinV t (.tup [])).put d (.tup []) s.hp) else False:=gdQ_t
theorem arunD_gf:arunD Φ (h :: hs) (⟨d,op,some (t,false)⟩ :: r) lens K s=if isB (lk s.fr t) false then aq (exD Φ h ⟨d,op,some (t,false)⟩ (lens ++ [s.hp.length]) s) (s.pin t false) d (arunD Φ hs r (lens ++ [s.hp.length]) K) else if isB (lk s.fr t) true then arunD Φ hs r (lens ++ [s.hp.length]) K ((s.pin t true).put d (.tup []) s.hp) else if isU (lk s.fr t) then arunD Φ hs r (lens ++ [s.hp.length]) K ((s.pinV t (.tup [])).put d (.tup []) s.hp) else False:=gdQ_f
theorem aq_some {z:AV} {hp:List AObj} {p:Prop}:aq (some (z,hp,p)) s d K=(p∧K (s.put d z hp)):=rfl
theorem thenQ_n {K:St→Prop}:thenQ K Q .normal s=K s:=rfl
theorem thenQ_x {K:St→Prop}:thenQ K Q (.exit id) s=Q (.exit id) s:=rfl
theorem thenQ_r {K:St→Prop}:thenQ K Q .ret s=Q .ret s:=rfl
theorem inQ_n:inQ id Q .normal s=Q .normal s:=rfl
theorem inQ_r:inQ id Q .ret s=Q .ret s:=rfl
theorem inQ_x {i:Nat}:inQ id Q (.exit i) s=if i=id then Q .normal s else Q (.exit i) s:=rfl
theorem retQ_n {rs:List ARes} {r:Ret}:retQ rs m r .normal s=finP m r s (aret s rs):=rfl
theorem retQ_r {rs:List ARes} {r:Ret}:retQ rs m r .ret s=finP m r s (aret s rs):=rfl
end
theorem getD_mapU {l:List UInt8} {k:Nat}:(l.map U).getD k (.int .u8 0)=U (l.getD k 0):=by
 simp only [List.getD_eq_getElem?_getD,List.getElem?_map]; cases l[k]? <;> rfl
theorem ofC_U {u:UInt8}:ofC (U u)=.int .u8 (u.toNat:Int):=rfl
theorem setAll_nil {hp os:List AObj}:setAll hp [] os=hp:=by cases os <;> rfl
theorem setAll_cons {hp os:List AObj} {i:Nat} {is:List Nat} {o:AObj}:setAll hp (i :: is) (o :: os)=setAll (hp.set i o) is os:=rfl
theorem Bs_len {l:List UInt8}:(Bs l).length=l.length:=by simp [Bs]
theorem getD_Bs {l:List UInt8} {k:Nat}:(Bs l).getD k (.int .u8 0)=.int .u8 ((l.getD k 0).toNat:Int):=by
 unfold Bs
 simp only [List.getD_eq_getElem?_getD,List.getElem?_map]; cases l[k]? <;> rfl
theorem ofC_i {k:IntKind} {n:Int}:ofC (.int k n)=.int k n:=rfl
theorem ofC_b {b:Bool}:ofC (.bool b)=.bool b:=rfl
theorem ofC_s {b:ByteArray}:ofC (.string b)=.str b.data.toList:=rfl
end Go.Proofs.YtakolikdebfkeaaDoor
namespace Go.Proofs.YtakolikdebfkeaaDoor
open Go.RowKit
section
variable {P : Program} {f : FuncId} {sp : Spec}
theorem heap_nil (w:World) {S:Nat→Prop} (hS:∀ b,S b→b<w.heap.size):HeapOk (Lent rho0 []) w S rho0 [] w :=
 ⟨⟨rfl,rfl,rfl,Nat.le_refl _,fun _ _ _=>rfl⟩,fun id o h=>by simp at h,fun i j x y _ h=>by simp at h,fun id o h=>by simp at h,hS,fun _ _ _=>rfl,fun id o h=>by simp at h⟩
theorem FnOk.calls (h:FnOk P f sp) {xs:List AV} {r:Ret} (hs:sp xs []=some r) (hp:r.pre) {w:World} {args:List Value} (ha:ArgsOk w (fun b=>b<w.heap.size) rho0 xs args) :
  Calls P f args.toArray w fun e w' => ∃ v S' ρ',e=.returned v∧Vl w' S' ρ' r.v v∧Below w.heap.size w w' := by
 refine (h xs [] r hs hp w _ rho0 args (heap_nil w (fun _ h=>h)) ha).mono ?_
 rintro e w' ⟨v,S',ρ',rfl,hv,H,hE,_⟩
 exact ⟨v,S',ρ',rfl,hv,H.kept.os,H.kept.tape,H.kept.output,H.kept.size,fun k hk=>hE.mem k hk⟩
theorem FnOk.calls_bool (h:FnOk P f sp) {xs:List AV} {r:Ret} {b:Bool} (hs:sp xs []=some r) (hp:r.pre) (hv:r.v=.bool b) {w:World} {args:List Value} (ha:ArgsOk w (fun b=>b<w.heap.size) rho0 xs args) :
  Calls P f args.toArray w fun e w' => e=.returned (.bool b)∧Below w.heap.size w w' := by
 refine (h.calls hs hp ha).mono ?_
 rintro e w' ⟨v,S',ρ',rfl,hv',hb⟩
 rw [hv] at hv'
 exact ⟨by rw [hv'.bool],hb⟩
theorem fnok_of_calls (h:∀ «as» hp r,sp «as» hp=some r→r.pre→hp=[]∧r.hp=[]∧∀ (w:World) (S:Nat→Prop) (ρ:Rho) (args:List Value),(∀ b,S b→b<w.heap.size)→ArgsOk w S ρ «as» args →
  Calls P f args.toArray w fun e w' => ∃ v,e=.returned v∧Below w.heap.size w w' ∧ ∀ (w' : World) (S:Nat→Prop) (ρ:Rho),Vl w' S ρ r.v v):FnOk P f sp:=by
 intro «as» hp r hs hp' w S ρ args H ha
 obtain ⟨rfl,hr,hc⟩:=h «as» hp r hs hp'
 refine (hc w S ρ args H.slt ha).mono ?_
 rintro e w' ⟨v,rfl,hb,hv⟩
 obtain ⟨H',hE⟩:=H.same (S' := S) hb (fun _ h=>h) (fun _ h=>.inl h)
 exact ⟨v,S,ρ,rfl,hv _ _ _,by rw [hr]; exact H',hE,fun b h=>.inl h⟩
end
section
variable {w : World} {S : Nat → Prop} {ρ : Rho}
theorem args_nil (h:GlobOk w S):ArgsOk w S ρ [] []:=⟨h,rfl,fun i hi=>by simp at hi⟩
theorem args_cons {x:AV} {v:Value} {«as»:List AV} {vs:List Value} (h:Vl w S ρ x v) (k:ArgsOk w S ρ «as» vs):ArgsOk w S ρ (x :: «as») (v :: vs):=by
 refine ⟨k.1,by simp [k.2],fun i hi=>?_⟩
 cases i with
 | zero=>exact h
 | succ i=>exact k.3 i (by simpa using hi)
theorem ArgsOk.get {«as»:List AV} {vs:List Value} (h:ArgsOk w S ρ «as» vs):∀ (x:AV) (as' : List AV),«as»=x :: as' → ∃ v vs',vs=v :: vs' ∧ Vl w S ρ x v∧ArgsOk w S ρ as' vs' := by
 rintro x as' rfl
 obtain ⟨h0,h1,h2⟩:=h
 cases vs with
 | nil=>simp at h1
 | cons v vs=>exact ⟨v,vs,rfl,h2 0 (by simp),h0,by simpa using h1,fun i hi=>by simpa using h2 (i+1) (by simpa using hi)⟩
theorem ArgsOk.none {vs:List Value} (h:ArgsOk w S ρ [] vs):vs=[]:=List.eq_nil_of_length_eq_zero (by simpa using h.2)
end
end Go.Proofs.YtakolikdebfkeaaDoor
namespace Go.Proofs.YtakolikdebfkeaaDoor
open Go.RowKit
def topR:List AV:=[.top,.top,.top,.top,.top,.top,.top,.top,.top,.top,.top,.top,.top,.top,.top,.top]
def nth1:List AV→Nat→AV
 | [],_=>.top
 | x :: _,0=>x
 | _ :: l,j+1=>nth1 l j
def set1:List AV→Nat→AV→List AV
 | [],0,x=>[x]
 | [],j+1,x=>.top :: set1 [] j x
 | _ :: l,0,x=>x :: l
 | y :: l,j+1,x=>y :: set1 l j x
def nthR:List (List AV)→Nat→List AV
 | [],_=>topR
 | r :: _,0=>r
 | _ :: l,i+1=>nthR l i
def setR:List (List AV)→Nat→Nat→AV→List (List AV)
 | [],0,j,x=>[set1 topR j x]
 | [],i+1,j,x=>topR :: setR [] i j x
 | r :: l,0,j,x=>set1 r j x :: l
 | r :: l,i+1,j,x=>r :: setR l i j x
def lk2 (fr:List (List AV)) (n:Nat):AV:=nth1 (nthR fr (n / 16)) (n % 16)
def putF (fr:List (List AV)) (n:Nat) (x:AV):List (List AV):=setR fr (n / 16) (n % 16) x
theorem nth1_nil (j:Nat):nth1 [] j=.top:=by cases j <;> rfl
theorem nth1_set1:∀ (l:List AV) (j k:Nat) (x:AV),nth1 (set1 l j x) k=if j=k then x else nth1 l k:=by
 intro l
 induction l with
 | nil =>
  intro j
  induction j with
  | zero=>intro k x; cases k with | zero=>rfl | succ k=>simp [set1,nth1]
  | succ j ih=>intro k x; cases k with | zero=>simp [set1,nth1] | succ k=>simp only [set1,nth1,ih,nth1_nil]; simp
 | cons y l ih =>
  intro j k x
  cases j with
  | zero=>cases k with | zero=>rfl | succ k=>simp [set1,nth1]
  | succ j=>cases k with | zero=>simp [set1,nth1] | succ k=>simp only [set1,nth1,ih]; simp
theorem nthR_setR:∀ (l:List (List AV)) (i k j:Nat) (x:AV),nthR (setR l i j x) k=if i=k then set1 (nthR l k) j x else nthR l k:=by
 intro l
 induction l with
 | nil =>
  intro i
  induction i with
  | zero=>intro k j x; cases k with | zero=>rfl | succ k=>simp [setR,nthR]
  | succ i ih=>intro k j x; cases k with | zero=>simp [setR,nthR] | succ k=>simp only [setR,nthR,ih]; simp
 | cons r l ih =>
  intro i k j x
  cases i with
  | zero=>cases k with | zero=>rfl | succ k=>simp [setR,nthR]
  | succ i=>cases k with | zero=>simp [setR,nthR] | succ k=>simp only [setR,nthR,ih]; simp
theorem lk2_putF (fr:List (List AV)) (n m:Nat) (x:AV):lk2 (putF fr n x) m=if n=m then x else lk2 fr m:=by
 unfold lk2 putF
 rw [nthR_setR]
 by_cases h:n / 16=m / 16
 ·rw [if_pos h,nth1_set1]
  by_cases h2:n % 16=m % 16
  ·rw [if_pos h2,if_pos (by omega)]
  ·rw [if_neg h2,if_neg (by intro e; exact h2 (by rw [e]))]
 ·rw [if_neg h,if_neg (by intro e; exact h (by rw [e]))]
theorem lk2_nil (n:Nat):lk2 [] n=.top:=by
 unfold lk2 nthR topR
 have:n % 16<16:=Nat.mod_lt _ (by omega)
 generalize n % 16=k at *
 match k,this with
 | 0,_ | 1,_ | 2,_ | 3,_ | 4,_ | 5,_ | 6,_ | 7,_ | 8,_ | 9,_ | 10,_ | 11,_ | 12,_ | 13,_ | 14,_ | 15,_=>rfl
 | j+16,h=>exact absurd h (by omega)
def mkF:List (Nat × AV)→List (List AV)
 | []=>[]
 | (k,v) :: r=>putF (mkF r) k v
theorem lk2_mkF:∀ (l:List (Nat × AV)) (n:Nat),lk2 (mkF l) n=lk l n
 | [],n=>lk2_nil n
 | (k,v) :: r,n=>by simp only [mkF,lk2_putF,lk,lk2_mkF r n]
structure S2 where
 fr:List (List AV)
 hp:List AObj
def flatF:Nat→List (List AV)→List (Nat × AV)
 | _,[]=>[]
 | k,r :: l=>slots (16 * k) ((List.range 16).map (nth1 r)) ++ flatF (k+1) l
theorem lk_append (a b:List (Nat × AV)) (n:Nat):((a.any fun p=>p.1 == n)=true→lk (a ++ b) n=lk a n)∧((a.any fun p=>p.1 == n)=false→lk (a ++ b) n=lk b n):=by
 induction a with
 | nil=>exact ⟨fun h=>by simp at h,fun _=>rfl⟩
 | cons p a ih =>
  obtain ⟨k,v⟩:=p
  simp only [List.cons_append,lk,List.any_cons]
  by_cases e:k=n
  ·refine ⟨fun _=>by rw [if_pos e,if_pos e],fun h=>?_⟩
   rw [e] at h; simp at h
  ·have e' : (k == n)=false:=by simpa using e
   refine ⟨fun h=>?_,fun h=>?_⟩
   ·rw [if_neg e,if_neg e]; exact ih.1 (by simpa [e'] using h)
   ·rw [if_neg e]; exact ih.2 (by simpa [e'] using h)
theorem slots_any:∀ (xs:List AV) (k n:Nat),((slots k xs).any fun p=>p.1 == n)=decide (k≤n∧n<k+xs.length)
 | [],k,n=>by simp only [slots,List.any_nil,List.length_nil]; exact (decide_eq_false (by omega)).symm
 | x :: xs,k,n=>by
  simp only [slots,List.any_cons,slots_any xs (k+1) n,List.length_cons]
  by_cases e:k=n
  ·subst e; simp
  ·have:(k == n)=false:=by simpa using e
   rw [this,Bool.false_or]
   congr 1
   exact propext ⟨fun h=>⟨by omega,by omega⟩,fun h=>⟨by omega,by omega⟩⟩
theorem lk_flatF:∀ (l:List (List AV)) (k n:Nat),16 * k≤n→lk (flatF k l) n=nth1 (nthR l (n / 16 - k)) (n % 16):=by
 intro l
 induction l with
 | nil =>
  intro k n h
  have:=lk2_nil n
  unfold lk2 at this
  simp only [flatF,lk,nthR] at *
  exact this.symm
 | cons r l ih =>
  intro k n h
  simp only [flatF]
  have hl:=lk_append (slots (16 * k) ((List.range 16).map (nth1 r))) (flatF (k+1) l) n
  rw [slots_any] at hl
  simp only [List.length_map,List.length_range] at hl
  by_cases hn:n<16 * k+16
  ·rw [hl.1 (decide_eq_true ⟨h,hn⟩),lk_slots,if_pos h,show n / 16 - k=0 by omega]
   simp only [nthR]
   rw [show n % 16=n - 16 * k by omega]
   rw [List.getD_eq_getElem?_getD,List.getElem?_map,List.getElem?_range (by omega)]
   rfl
  ·rw [hl.2 (decide_eq_false (fun c=>hn c.2)),ih (k+1) n (by omega)]
   obtain ⟨d,hd⟩:∃ d,n / 16 - k=d+1:=⟨n / 16 - k - 1,by omega⟩
   rw [hd,show n / 16 - (k+1)=d by omega]
   rfl
def toS (s:S2):St:=⟨flatF 0 s.fr,s.hp⟩
theorem lk_toS {fr:List (List AV)} {hp:List AObj} {n:Nat}:lk (toS ⟨fr,hp⟩).fr n=lk2 fr n:=by
 show lk (flatF 0 fr) n=_
 rw [lk_flatF fr 0 n (by omega)]
 rfl
theorem lk_toS' {s:S2} {n:Nat}:lk (toS s).fr n=lk2 s.fr n:=lk_toS (hp:=s.hp)
theorem hp_toS {fr:List (List AV)} {hp:List AObj}:(toS ⟨fr,hp⟩).hp=hp:=_root_.id rfl
def ofS (s:St):S2:=⟨mkF s.fr,s.hp⟩
def S2.put (s:S2) (d:Option Nat) (x:AV) (hp:List AObj):S2 :=
 match d with
 | some t=>⟨putF s.fr t x,hp⟩
 | none=>⟨s.fr,hp⟩
def S2.pin (s:S2) (t:Nat) (b:Bool):S2:=⟨putF s.fr t (.bool b),s.hp⟩
def S2.pinV (s:S2) (t:Nat) (x:AV):S2:=⟨putF s.fr t x,s.hp⟩
def R2 (s:St) (s2:S2):Prop:=s.hp=s2.hp∧∀ n,lk s.fr n=lk2 s2.fr n
theorem R2.ofS (s:St):R2 s (ofS s):=⟨rfl,fun n=>(lk2_mkF s.fr n).symm⟩
theorem R2.lk {s:St} {s2:S2} (h:R2 s s2) (n:Nat):lk s.fr n=lk (Go.Proofs.YtakolikdebfkeaaDoor.toS s2).fr n:=by rw [h.2,lk_toS']
theorem R2.put {s:St} {s2:S2} (h:R2 s s2) (d:Option Nat) (x:AV) (hp:List AObj):R2 (s.put d x hp) (s2.put d x hp):=by
 cases d with
 | none=>exact ⟨rfl,h.2⟩
 | some t=>exact ⟨rfl,fun n=>by
   show Go.Proofs.YtakolikdebfkeaaDoor.lk ((t,x) :: s.fr) n=lk2 (putF s2.fr t x) n
   simp only [Go.Proofs.YtakolikdebfkeaaDoor.lk,lk2_putF,h.2]⟩
theorem R2.pin {s:St} {s2:S2} (h:R2 s s2) (t:Nat) (b:Bool):R2 (s.pin t b) (s2.pin t b):=by
 refine ⟨h.1,fun n=>?_⟩
 show Go.Proofs.YtakolikdebfkeaaDoor.lk ((t,.bool b) :: s.fr) n=lk2 (putF s2.fr t (.bool b)) n
 simp only [Go.Proofs.YtakolikdebfkeaaDoor.lk,lk2_putF,h.2]
theorem R2.pinV {s:St} {s2:S2} (h:R2 s s2) (t:Nat) (x:AV):R2 (s.pinV t x) (s2.pinV t x):=by
 refine ⟨h.1,fun n=>?_⟩
 show Go.Proofs.YtakolikdebfkeaaDoor.lk ((t,x) :: s.fr) n=lk2 (putF s2.fr t x) n
 simp only [Go.Proofs.YtakolikdebfkeaaDoor.lk,lk2_putF,h.2]
def aq2:Option (AV × List AObj × Prop)→S2→Option Nat→(S2→Prop)→Prop
 | some (x,hp,p),s,d,K=>p∧K (s.put d x hp)
 | none,_,_,_=>False
def arun2 (Φ:Phi):List AOper→(S2→Prop)→S2→Prop
 | [],K,s=>K s
 | ⟨d,op,none⟩ :: r,K,s=>aq2 (astep Φ (toS s) op) s d (arun2 Φ r K)
 | ⟨d,op,some (t,b)⟩ :: r,K,s=>gdQ (lk2 s.fr t) b (aq2 (astep Φ (toS s) op) (s.pin t b) d (arun2 Φ r K)) (fun y=>arun2 Φ r K ((s.pinV t y).put d (.tup []) s.hp))
def arunD2 (Φ:Phi):Hid1→List AOper→List Nat→(S2→Prop)→S2→Prop
 | _,[],_,K,s=>K s
 | h :: hs,⟨d,op,none⟩ :: r,lens,K,s=>aq2 (exD Φ h ⟨d,op,none⟩ (lens ++ [s.hp.length]) (toS s)) s d (arunD2 Φ hs r (lens ++ [s.hp.length]) K)
 | h :: hs,⟨d,op,some (t,b)⟩ :: r,lens,K,s =>
  gdQ (lk2 s.fr t) b (aq2 (exD Φ h ⟨d,op,some (t,b)⟩ (lens ++ [s.hp.length]) (toS s)) (s.pin t b) d (arunD2 Φ hs r (lens ++ [s.hp.length]) K)) (fun y=>arunD2 Φ hs r (lens ++ [s.hp.length]) K ((s.pinV t y).put d (.tup []) s.hp))
 | [],_ :: _,_,_,_=>False
def thenQ2 (K:S2→Prop) (Q:Exit→S2→Prop):Exit→S2→Prop
 | .normal,s=>K s
 | e,s=>Q e s
def inQ2 (id:Nat) (Q:Exit→S2→Prop):Exit→S2→Prop
 | .exit i,s=>if i=id then Q .normal s else Q (.exit i) s
 | e,s=>Q e s
def loopQ2 (m:Nat) (B:(Exit→S2→Prop)→S2→Prop) (Q:Exit→S2→Prop) (s:S2):Prop :=
 ∃ (nils:List (Nat × TypeId × Nat)) (slots ids:List Nat) (I:St→Prop) (μ:St→Nat),nodupB ids=true∧ids.take m=List.range m∧(∃ s',ent nils slots ids (toS s)=some s' ∧ I s') ∧
  ∀ s,I s→B (thenQ2 (fun s' => kpQ m slots (toS s') fun s2=>I s2∧μ s2<μ s) Q) (ofS s)
def noG2 (Q:Exit→S2→Prop):Exit→S2→Prop
 | .goto _,_=>False
 | e,s=>Q e s
def stepA2 (Φ:Phi) (o:AOper) (s:S2) (K:S2→Prop):Prop :=
 match o with
 | ⟨d,op,none⟩=>aq2 (astep Φ (toS s) op) s d K
 | ⟨_,_,some _⟩=>False
def nextA2 (Φ:Phi) (K:Nat→S2→Prop) (s:S2) (dn:Nat):Nat→List Nat→List AOper→Prop
 | i,d :: deps,o :: l=>(if ((dn &&& 2 ^ i) == 0 && (d &&& dn) == d)=true then stepA2 Φ o s (K (dn ||| 2 ^ i)) else True)∧nextA2 Φ K s dn (i+1) deps l
 | _,[],[]=>True
 | _,_,_=>False
def allD2 (Φ:Phi) (deps:List Nat) (l:List AOper) (K:S2→Prop):Nat→Nat→S2→Prop
 | 0,_,s=>K s
 | n+1,dn,s=>nextA2 Φ (allD2 Φ deps l K n) s dn 0 deps l
def runT (Φ:Phi):List AOper→S2→Option S2
 | [],s=>some s
 | ⟨d,op,_⟩ :: r,s=>match astep Φ (toS s) op with
  | some (x,hp,_)=>runT Φ r (s.put d x hp)
  | none=>none
def any2 (Φ:Phi) (deps:List Nat) (l:List AOper) (K:S2→Prop) (s:S2):Prop :=
 match runT Φ l s with
 | some s1=>allD2 Φ deps l (·=s1) l.length 0 s∧K s1
 | none=>False
def awp2 (Φ:Phi) (m:Nat):ACode→(Exit→S2→Prop)→S2→Prop
 | .skip,Q,s=>Q .normal s
 | .reg none l,Q,s=>arun2 Φ l (Q .normal) s
 | .reg (some hid) l,Q,s=>if isAny hid=true then any2 Φ (depsOf hid) l (Q .normal) s else arunD2 Φ hid l [] (Q .normal) s
 | .seq x y,Q,s=>awp2 Φ m x (thenQ2 (awp2 Φ m y Q) Q) s
 | .cond c x y,Q,s=>condQ ((toS s).ev c) (awp2 Φ m x Q s) (awp2 Φ m y Q s)
 | .block id c,Q,s=>awp2 Φ m c (inQ2 id Q) s
 | .loop c,Q,s=>loopQ2 m (awp2 Φ m c) Q s
 | .exit id,Q,s=>Q (.exit id) s
 | .ret,Q,s=>Q .ret s
 | .scope c,Q,s=>awp2 Φ m c (noG2 Q) s
section
variable {Φ : Phi} {m : Nat}
theorem astep_R2 {s:St} {s2:S2} (h:R2 s s2) (op:AOp):astep Φ s op=astep Φ (toS s2) op:=astep_congr h.1 fun t _=>h.lk t
theorem exD_R2 {s:St} {s2:S2} (h:R2 s s2) (hd:Nat × Bool) (o:AOper) (lens:List Nat):exD Φ hd o lens s=exD Φ hd o lens (toS s2):=by
 unfold exD
 rw [astep_R2 h,avalP_congr (s:=⟨s.fr,s.hp.take (lens.getD hd.1 0)⟩) (s' := ⟨(toS s2).fr,(toS s2).hp.take (lens.getD hd.1 0)⟩) (by show s.hp.take _=s2.hp.take _; rw [h.1]) (fun t _=>h.lk t),show s.hp=(toS s2).hp from h.1]
theorem aq2_aq {r:Option (AV × List AObj × Prop)} {s:St} {s2:S2} {d:Option Nat} {K:St→Prop} {K2:S2→Prop} (h:R2 s s2) (hK:∀ s s2,R2 s s2→K2 s2→K s) (hq:aq2 r s2 d K2):aq r s d K:=by
 cases r with
 | none=>exact hq
 | some r=>exact ⟨hq.1,hK _ _ (h.put _ _ _) hq.2⟩
theorem arun2_ok:∀ (l:List AOper) (K:St→Prop) (K2:S2→Prop),(∀ s s2,R2 s s2→K2 s2→K s)→∀ s s2,R2 s s2→arun2 Φ l K2 s2→arun Φ l K s:=by
 intro l
 induction l with
 | nil=>intro K K2 hK s s2 h hq; exact hK _ _ h hq
 | cons o r ih =>
  intro K K2 hK s s2 h hq
  obtain ⟨d,op,g⟩:=o
  cases g with
  | none =>
   simp only [arun,arun2] at hq ⊢
   rw [astep_R2 h]
   exact aq2_aq h (fun s s2 h=>ih K K2 hK s s2 h) hq
  | some g =>
   obtain ⟨t,b⟩:=g
   simp only [arun,arun2] at hq ⊢
   rw [astep_R2 h,h.2 t]
   refine gdQ_mono hq (aq2_aq (h.pin t b) fun s s2 h=>ih K K2 hK s s2 h) (fun y=>ih K K2 hK _ _ ?_)
   rw [show s.hp=s2.hp from h.1]
   exact (h.pinV t y).put _ _ _
theorem arunD2_ok:∀ (l:List AOper) (hs:Hid1) (ls:List Nat) (K:St→Prop) (K2:S2→Prop),(∀ s s2,R2 s s2→K2 s2→K s)→∀ s s2,R2 s s2→arunD2 Φ hs l ls K2 s2→arunD Φ hs l ls K s:=by
 intro l
 induction l with
 | nil=>intro hs ls K K2 hK s s2 h hq; cases hs <;> exact hK _ _ h hq
 | cons o r ih =>
  intro hs ls K K2 hK s s2 h hq
  obtain ⟨d,op,g⟩:=o
  cases hs with
  | nil=>cases g <;> exact hq.elim
  | cons hd hs =>
   cases g with
   | none =>
    simp only [arunD,arunD2] at hq ⊢
    rw [exD_R2 h,show s.hp=s2.hp from h.1]
    exact aq2_aq h (fun s s2 h=>ih hs _ K K2 hK s s2 h) hq
   | some g =>
    obtain ⟨t,b⟩:=g
    simp only [arunD,arunD2] at hq ⊢
    rw [exD_R2 h,h.2 t,show s.hp=s2.hp from h.1]
    exact gdQ_mono hq (aq2_aq (h.pin t b) fun s s2 h=>ih hs _ K K2 hK s s2 h) (fun y=>ih hs _ K K2 hK _ _ ((h.pinV t y).put _ _ _))
theorem nextA2_get {K:Nat→S2→Prop} {s:S2} {dn:Nat}:∀ {l:List AOper} {deps:List Nat} {i:Nat},nextA2 Φ K s dn i deps l→∀ j,j<l.length→(!dn.testBit (i+j) && (deps.getD j 0 &&& dn) == deps.getD j 0)=true→stepA2 Φ (l.getD j dflO) s (K (dn ||| 2 ^ (i+j))):=by
 intro l
 induction l with
 | nil=>intro deps i _ j hj; simp at hj
 | cons o l ih =>
  intro deps i h j hj hr
  cases deps with
  | nil=>exact h.elim
  | cons d deps =>
   obtain ⟨h1,h2⟩:=h
   cases j with
   | zero =>
    simp only [List.getD_cons_zero,Nat.add_zero] at hr ⊢
    rw [if_pos] at h1
    ·exact h1
    ·simp only [Bool.and_eq_true,Bool.not_eq_true',beq_iff_eq] at hr ⊢
     exact ⟨and_pow_of hr.1,hr.2⟩
   | succ j =>
    simp only [List.getD_cons_succ] at hr ⊢
    rw [show i+(j+1)=i+1+j by omega] at hr ⊢
    exact ih h2 j (by simpa using hj) hr
theorem allD2_ok {deps:List Nat} {l:List AOper} {K:St→Prop} {K2:S2→Prop} (hK:∀ s s2,R2 s s2→K2 s2→K s):∀ (n dn:Nat) (s:St) (s2:S2),R2 s s2→allD2 Φ deps l K2 n dn s2→allD Φ deps l K n dn s:=by
 intro n
 induction n with
 | zero=>intro dn s s2 h hq; exact hK _ _ h hq
 | succ n ih =>
  intro dn s s2 h hq i hi hr
  have:=nextA2_get (i:=0) hq i hi (by rw [Nat.zero_add]; exact hr)
  rw [Nat.zero_add] at this
  unfold stepA
  revert this
  rcases l.getD i dflO with ⟨d,op,_ | g⟩
  ·intro this
   simp only [stepA2] at this ⊢
   rw [astep_R2 h]
   exact aq2_aq h (fun s s2 h=>ih _ s s2 h) this
  ·intro this; exact this
theorem any2_ok {deps:List Nat} {l:List AOper} {K:St→Prop} {K2:S2→Prop} (hK:∀ s s2,R2 s s2→K2 s2→K s) {s:St} {s2:S2} (h:R2 s s2) (hq:any2 Φ deps l K2 s2):allD Φ deps l K l.length 0 s:=by
 unfold any2 at hq
 split at hq
 ·rename_i s1 _
  exact allD2_ok (K2:=(·=s1)) (fun s s2 h e=>hK s s2 h (e ▸ hq.2)) _ _ _ _ h hq.1
 ·exact hq.elim
theorem kpI_R {s s' : St} (h1:s.hp=s'.hp) (h2:∀ n,lk s.fr n=lk s'.fr n) (sl ids:List Nat):kpI sl ids s=kpI sl ids s' := by
 unfold kpI
 rw [h1]
 simp only [h2]
theorem ent_R {sl ids:List Nat}:∀ (nils:List (Nat × TypeId × Nat)) {s s' : St},s.hp=s'.hp→(∀ n,lk s.fr n=lk s'.fr n)→ent nils sl ids s=ent nils sl ids s' := by
 intro nils
 induction nils with
 | nil=>intro s s' h1 h2; exact kpI_R h1 h2 sl ids
 | cons a r ih =>
  intro s s' h1 h2
  obtain ⟨t,e,sz⟩:=a
  unfold ent
  simp only [nilG,← h2 t,← h1]
  split
  ·split
   ·split
    ·exact ih (s:=⟨(t,.own s.hp.length 0) :: s.fr,s.hp ++ [.row e sz 0 []]⟩) (s' := ⟨(t,.own s.hp.length 0) :: s'.fr,s.hp ++ [.row e sz 0 []]⟩) rfl (fun n=>by simp only [lk,h2])
    ·rfl
   ·rfl
  ·split
   ·rename_i T ps _
    split
    ·split
     ·exact ih (s:=⟨s.fr,s.hp.set ((t - 4096) / 64) (.cells T (ps.set ((t - 4096) % 64) (1,.own s.hp.length 0))) ++ [.row e sz 0 []]⟩) (s' := ⟨s'.fr,s.hp.set ((t - 4096) / 64) (.cells T (ps.set ((t - 4096) % 64) (1,.own s.hp.length 0))) ++ [.row e sz 0 []]⟩) rfl h2
     ·rfl
    ·rfl
   ·rfl
theorem awp2_ok:∀ (c:ACode) (Q:Exit→St→Prop) (Q2:Exit→S2→Prop),(∀ e s s2,R2 s s2→Q2 e s2→Q e s)→∀ s s2,R2 s s2→awp2 Φ m c Q2 s2→awp Φ m c Q s:=by
 intro c
 induction c with
 | skip=>intro Q Q2 hQ s s2 h hq; exact hQ _ _ _ h hq
 | reg hid l =>
  intro Q Q2 hQ s s2 h hq
  cases hid with
  | none=>exact arun2_ok l _ _ (hQ .normal) s s2 h hq
  | some hid =>
   simp only [awp,awp2] at hq ⊢
   split
   ·rename_i hh; rw [if_pos hh] at hq; exact any2_ok (hQ .normal) h hq
   ·rename_i hh; rw [if_neg hh] at hq; exact arunD2_ok l hid [] _ _ (hQ .normal) s s2 h hq
 | seq x y ihx ihy =>
  intro Q Q2 hQ s s2 h hq
  refine ihx _ _ (fun e s s2 h hs=>?_) s s2 h hq
  cases e <;> first | exact ihy _ _ hQ s s2 h hs | exact hQ _ _ _ h hs
 | cond c x y ihx ihy =>
  intro Q Q2 hQ s s2 h hq
  have he:s.ev c=(toS s2).ev c:=by cases c with | t n=>exact h.lk n | c x=>rfl
  simp only [awp,awp2,he,condQ] at hq ⊢
  split
  ·rename_i b hb; rw [hb] at hq; exact ⟨fun e=>ihx _ _ hQ s s2 h (hq.1 e),fun e=>ihy _ _ hQ s s2 h (hq.2 e)⟩
  ·rename_i hn
   split at hq
   ·rename_i b hb; exact absurd hb (hn b)
   ·exact hq
 | block id c ih =>
  intro Q Q2 hQ s s2 h hq
  refine ih _ _ (fun e s s2 h hs=>?_) s s2 h hq
  cases e <;> simp only [inQ,inQ2] at hs ⊢ <;> first | exact hQ _ _ _ h hs | (split <;> rename_i e <;> simp only [e,if_true,if_false] at hs <;> exact hQ _ _ _ h hs)
 | loop c ih =>
  intro Q Q2 hQ s s2 h hq
  obtain ⟨nils,sl,ids,I,μ,hm,hm2,h0,hr⟩:=hq
  rw [← ent_R nils (s:=s) (s' := toS s2) h.1 h.lk] at h0
  refine ⟨nils,sl,ids,I,μ,hm,hm2,h0,fun s hs=>ih _ _ (fun e s' s2' h' hs' => ?_) s (ofS s) (R2.ofS s) (hr s hs)⟩
  cases e <;> first | exact hQ _ _ _ h' hs' | skip
  simp only [thenQ,thenQ2] at hs' ⊢
  obtain ⟨n',i',s3,k1,k2,k3,k4⟩:=hs'
  exact ⟨n',i',s3,k1,k2,by rw [ent_R n' (s:=s') (s' := toS s2') h'.1 h'.lk]; exact k3,k4⟩
 | exit i=>intro Q Q2 hQ s s2 h hq; exact hQ _ _ _ h hq
 | ret=>intro Q Q2 hQ s s2 h hq; exact hQ _ _ _ h hq
 | scope c ih=>intro Q Q2 hQ s s2 h hq; exact ih _ _ (fun e s s2 h hs=>by cases e <;> first | exact hs.elim | exact hQ _ _ _ h hs) s s2 h hq
theorem aq2_mono {r:Option (AV × List AObj × Prop)} {s:S2} {d:Option Nat} {K K' : S2→Prop} (h:∀ s,K s→K' s) (hq:aq2 r s d K):aq2 r s d K' := by
 cases r with
 | none=>exact hq
 | some r=>exact ⟨hq.1,h _ hq.2⟩
theorem arun2_mono:∀ (l:List AOper) (s:S2) (K K' : S2→Prop),(∀ s,K s→K' s)→arun2 Φ l K s→arun2 Φ l K' s:=by
 intro l
 induction l with
 | nil=>intro s K K' h hk; exact h _ hk
 | cons o r ih =>
  intro s K K' h hk
  obtain ⟨d,op,g⟩:=o
  cases g with
  | none=>exact aq2_mono (fun s' hs=>ih _ _ _ h hs) hk
  | some g=>exact gdQ_mono hk (aq2_mono fun s' hs=>ih _ _ _ h hs) (fun y=>ih _ _ _ h)
theorem arunD2_mono:∀ (l:List AOper) (hs:Hid1) (ls:List Nat) (s:S2) (K K' : S2→Prop),(∀ s,K s→K' s)→arunD2 Φ hs l ls K s→arunD2 Φ hs l ls K' s:=by
 intro l
 induction l with
 | nil=>intro hs ls s K K' h hk; cases hs <;> exact h _ hk
 | cons o r ih =>
  intro hs ls s K K' h hk
  obtain ⟨d,op,g⟩:=o
  cases hs with
  | nil=>cases g <;> exact hk.elim
  | cons hd hs =>
   cases g with
   | none=>exact aq2_mono (fun s' hs' => ih _ _ _ _ _ h hs') hk
   | some g=>exact gdQ_mono hk (aq2_mono fun s' hs' => ih _ _ _ _ _ h hs') (fun y=>ih _ _ _ _ _ h)
theorem awp2_mono:∀ (c:ACode) (Q Q' : Exit→S2→Prop),(∀ e s,Q e s→Q' e s)→∀ s,awp2 Φ m c Q s→awp2 Φ m c Q' s:=by
 intro c
 induction c with
 | skip=>intro Q Q' h s hq; exact h _ _ hq
 | reg hid l =>
  intro Q Q' h s hq
  cases hid with
  | none=>exact arun2_mono l s _ _ (fun s=>h _ s) hq
  | some hid =>
   simp only [awp2] at hq ⊢
   split
   ·rename_i hh
    rw [if_pos hh] at hq
    unfold any2 at hq ⊢
    split
    ·rename_i s1 hs; rw [hs] at hq; exact ⟨hq.1,h _ _ hq.2⟩
    ·rename_i hs; rw [hs] at hq; exact hq
   ·rename_i hh; rw [if_neg hh] at hq; exact arunD2_mono l hid _ s _ _ (fun s=>h _ s) hq
 | seq x y ihx ihy =>
  intro Q Q' h s hq
  refine ihx _ _ (fun e s hs=>?_) s hq
  cases e <;> first | exact ihy _ _ h s hs | exact h _ _ hs
 | cond c x y ihx ihy =>
  intro Q Q' h s hq
  simp only [awp2,condQ] at hq ⊢
  split
  ·rename_i b hb; rw [hb] at hq; exact ⟨fun e=>ihx _ _ h s (hq.1 e),fun e=>ihy _ _ h s (hq.2 e)⟩
  ·rename_i hn
   split at hq
   ·rename_i b hb; exact absurd hb (hn b)
   ·exact hq
 | block id c ih =>
  intro Q Q' h s hq
  refine ih _ _ (fun e s hs=>?_) s hq
  cases e <;> simp only [inQ2] at hs ⊢ <;> first | exact h _ _ hs | (split <;> rename_i e <;> simp only [e,if_true,if_false] at hs <;> exact h _ _ hs)
 | loop c ih =>
  intro Q Q' h s hq
  obtain ⟨nils,sl,ids,I,μ,hm,hm2,h0,hr⟩:=hq
  refine ⟨nils,sl,ids,I,μ,hm,hm2,h0,fun s hs=>ih _ _ (fun e s' hs' => ?_) _ (hr s hs)⟩
  cases e <;> first | exact hs' | exact h _ _ hs'
 | exit i=>intro Q Q' h s hq; exact h _ _ hq
 | ret=>intro Q Q' h s hq; exact h _ _ hq
 | scope c ih=>intro Q Q' h s hq; exact ih _ _ (fun e s hs=>by cases e <;> first | exact hs.elim | exact h _ _ hs) s hq
open Classical in
theorem loop2I {c:ACode} {Q:Exit→S2→Prop} {s:S2} {α:Type} (nils:List (Nat × TypeId × Nat)) (sl ids:List Nat) (st:α→St) (Inv:α→Prop) (μ:α→Nat) (a0:α) (hk:ent nils sl ids (toS s)=some (st a0)) (h0:Inv a0) (hm:nodupB ids=true∧ids.take m=List.range m)
  (h:∀ a,Inv a→awp2 Φ m c (thenQ2 (fun s' => ∃ nils' ids' a',nodupB ids' = true∧ids'.take m=List.range m∧Inv a' ∧ μ a' < μ a∧ent nils' sl ids' (toS s')=some (st a')) Q) (ofS (st a))):loopQ2 m (awp2 Φ m c) Q s:=by
 have least:∀ s,(∃ a,Inv a∧st a=s)→∃ a,Inv a∧st a=s∧∀ a',Inv a' → st a' = s→μ a≤μ a' := by
  intro s hs
  obtain ⟨a,ha,hs⟩:=hs
  generalize hk:μ a=k
  induction k using Nat.strongRecOn generalizing a with
  | _ k ih =>
   by_cases hex:∃ a',Inv a' ∧ st a' = s∧μ a' < k
   ·obtain ⟨a',h1,h2,h3⟩:=hex
    exact ih (μ a') h3 a' h1 h2 rfl
   ·refine ⟨a,ha,hs,fun a' h1 h2=>?_⟩
    rw [hk]
    exact Nat.le_of_not_lt fun hlt=>hex ⟨a',h1,h2,hlt⟩
 obtain ⟨M,hM1,hM2⟩:∃ M:St→Nat,(∀ s,(∃ a,Inv a∧st a=s)→∃ a,Inv a∧st a=s∧M s=μ a)∧∀ a,Inv a→M (st a)≤μ a:=by
  refine ⟨fun s=>if h:∃ a,Inv a∧st a=s then μ (least s h).choose else 0,fun s hs=>?_,fun a ha=>?_⟩
  ·obtain ⟨c1,c2,c3⟩:=(least s hs).choose_spec
   refine ⟨_,c1,c2,?_⟩
   simp only [dif_pos hs]
  ·have hs:∃ a',Inv a' ∧ st a' = st a:=⟨a,ha,rfl⟩
   obtain ⟨c1,c2,c3⟩:=(least _ hs).choose_spec
   simp only [dif_pos hs]
   exact c3 a ha rfl
 refine ⟨nils,sl,ids,fun s=>∃ a,Inv a∧st a=s,M,hm.1,hm.2,⟨_,hk,a0,h0,rfl⟩,fun s hs=>?_⟩
 ·obtain ⟨a,ha,has,hμ⟩:=hM1 s hs
  rw [hμ]
  subst has
  refine awp2_mono _ _ _ (fun e s' hq=>?_) _ (h a ha)
  cases e with
  | normal =>
   obtain ⟨nils',ids',a',k1,k2,h1,h2,h3⟩:=hq
   exact ⟨nils',ids',_,k1,k2,h3,⟨a',h1,rfl⟩,Nat.lt_of_le_of_lt (hM2 a' h1) h2⟩
  | _=>exact hq
theorem loop2 {c:ACode} {Q:Exit→S2→Prop} {s:S2} {α:Type} (nils:List (Nat × TypeId × Nat)) (sl ids:List Nat) (st:α→St) (Inv:α→Prop) (μ:α→Nat) (a0:α) (hk:ent nils sl ids (toS s)=some (st a0)) (h0:Inv a0) (hm:nodupB ids=true∧ids.take m=List.range m)
  (h:∀ a,Inv a→awp2 Φ m c (thenQ2 (fun s' => ∃ a',Inv a' ∧ μ a' < μ a∧kp sl ids.length (toS s')=some (st a')) Q) (ofS (st a))):loopQ2 m (awp2 Φ m c) Q s :=
 loop2I nils sl ids st Inv μ a0 hk h0 hm fun a ha=>awp2_mono _ _ _ (fun e s' hq=>by
  cases e with
  | normal =>
   obtain ⟨a',h1,h2,h3⟩:=hq
   have hmn:m≤ids.length:=by
    have:=congrArg List.length hm.2
    simp only [List.length_take,List.length_range] at this; omega
   exact ⟨[],List.range ids.length,a',nodup_range _,by rw [List.take_range,Nat.min_eq_left hmn],h1,h2,h3⟩
  | _=>exact hq) _ (h a ha)
def retQ2 (rs:List ARes) (m:Nat) (r:Ret):Exit→S2→Prop
 | .normal,s=>finP m r (toS s) (aret (toS s) rs)
 | .ret,s=>finP m r (toS s) (aret (toS s) rs)
 | _,_=>False
theorem aret_R2 {s:St} {s2:S2} (h:R2 s s2) (rs:List ARes):aret s rs=aret (toS s2) rs:=by
 have h1:∀ r,ares s r=ares (toS s2) r:=fun r=>by cases r <;> simp only [ares,h.lk,show s.hp=(toS s2).hp from h.1]
 have h2:∀ rs,aress s rs=aress (toS s2) rs:=fun rs=>by
  induction rs with
  | nil=>rfl
  | cons r rs ih=>simp only [aress,h1,ih]
 unfold aret
 split
 ·exact h1 _
 ·rw [h2]
theorem retQ2_ok {rs:List ARes} {m:Nat} {r:Ret} (e:Exit) (s:St) (s2:S2) (h:R2 s s2) (hq:retQ2 rs m r e s2):retQ rs m r e s:=by
 have key:finP m r (toS s2) (aret (toS s2) rs)→finP m r s (aret s rs):=by
  intro hq
  rw [← aret_R2 h] at hq
  have e1:s.hp=(toS s2).hp:=h.1
  unfold finP finI at hq ⊢
  rw [e1]
  exact hq
 cases e <;> first | exact key hq | exact hq
theorem fn_slim2 {P:Program} {f:FuncId} {fn:Func} {ac:ACode} {rs:List ARes} {sp:Spec} (hf:P.funcs[f]?=some fn) (hs:slimF P fn=some (ac,rs)) (hΦ:PhiOk P Φ)
  (h:∀ «as» hp r,sp «as» hp=some r→r.pre→«as».length≤fn.ntmps∧awp2 Φ hp.length ac (retQ2 rs hp.length r) (ofS ⟨slots 0 «as»,hp⟩)):FnOk P f sp :=
 fn_slimG hf hs hΦ fun «as» hp r h1 h2=>⟨(h «as» hp r h1 h2).1,awp2_ok ac _ _ retQ2_ok _ _ (R2.ofS _) (h «as» hp r h1 h2).2⟩
end
section
variable {l' : List AObj} {Φ : Phi} {m id : Nat} {Q : Exit → S2 → Prop} {K : S2 → Prop} {s : S2} {x y c : ACode} {l r : List AOper} {hid hs : Hid1} {h : Nat × Bool} {d : Option Nat} {op : AOp} {t n : Nat} {b : Bool} {lens : List Nat} {cc : Opd} {fr : List (List AV)} {hp : List AObj} {z : AV}
theorem b_skip:awp2 Φ m .skip Q s=Q .normal s:=_root_.id rfl
theorem b_reg:awp2 Φ m (.reg none l) Q s=arun2 Φ l (Q .normal) s:=_root_.id rfl
theorem b_draw {z:Nat × Bool}:awp2 Φ m (.reg (some (z :: hs)) l) Q s=if z.1=1000 then any2 Φ (hs.map Prod.fst) l (Q .normal) s else arunD2 Φ (z :: hs) l [] (Q .normal) s:=by
 obtain ⟨n,b⟩:=z
 simp only [awp2,isAny,beq_iff_eq,depsOf,List.tail_cons]
theorem b_seq:awp2 Φ m (.seq x y) Q s=awp2 Φ m x (thenQ2 (awp2 Φ m y Q) Q) s:=_root_.id rfl
theorem b_cond:awp2 Φ m (.cond cc x y) Q s=if isB ((toS s).ev cc) true then awp2 Φ m x Q s else if isB ((toS s).ev cc) false then awp2 Φ m y Q s else False:=condQ_if
theorem b_block:awp2 Φ m (.block id c) Q s=awp2 Φ m c (inQ2 id Q) s:=_root_.id rfl
theorem b_loop:awp2 Φ m (.loop c) Q s=loopQ2 m (awp2 Φ m c) Q s:=_root_.id rfl
theorem b_exit:awp2 Φ m (.exit id) Q s=Q (.exit id) s:=_root_.id rfl
theorem b_ret:awp2 Φ m .ret Q s=Q .ret s:=_root_.id rfl
theorem b_nil:arun2 Φ [] K s=K s:=_root_.id rfl
theorem b_op:arun2 Φ (⟨d,op,none⟩ :: r) K s=aq2 (astep Φ (toS s) op) s d (arun2 Φ r K):=_root_.id rfl
theorem b_gt:arun2 Φ (⟨d,op,some (t,true)⟩ :: r) K s=if isB (lk2 s.fr t) true then aq2 (astep Φ (toS s) op) (s.pin t true) d (arun2 Φ r K) else if isB (lk2 s.fr t) false then arun2 Φ r K ((s.pin t false).put d (.tup []) s.hp) else if isU (lk2 s.fr t) then arun2 Φ r K ((s.pinV t (.tup [])).put d (.tup []) s.hp) else False:=gdQ_t
theorem b_gf:arun2 Φ (⟨d,op,some (t,false)⟩ :: r) K s=if isB (lk2 s.fr t) false then aq2 (astep Φ (toS s) op) (s.pin t false) d (arun2 Φ r K) else if isB (lk2 s.fr t) true then arun2 Φ r K ((s.pin t true).put d (.tup []) s.hp) else if isU (lk2 s.fr t) then arun2 Φ r K ((s.pinV t (.tup [])).put d (.tup []) s.hp) else False:=gdQ_f
theorem b_dnil:arunD2 Φ hs [] lens K s=K s:=by cases hs <;> rfl
theorem b_dop:arunD2 Φ (h :: hs) (⟨d,op,none⟩ :: r) lens K s=aq2 (exD Φ h ⟨d,op,none⟩ (lens ++ [s.hp.length]) (toS s)) s d (arunD2 Φ hs r (lens ++ [s.hp.length]) K):=_root_.id rfl
theorem b_dgt:arunD2 Φ (h :: hs) (⟨d,op,some (t,true)⟩ :: r) lens K s=if isB (lk2 s.fr t) true then aq2 (exD Φ h ⟨d,op,some (t,true)⟩ (lens ++ [s.hp.length]) (toS s)) (s.pin t true) d (arunD2 Φ hs r (lens ++ [s.hp.length]) K) else if isB (lk2 s.fr t) false then arunD2 Φ hs r (lens ++ [s.hp.length]) K ((s.pin t false).put d (.tup []) s.hp) else if isU (lk2 s.fr t) then arunD2 Φ hs r (lens ++ [s.hp.length]) K ((s.pinV t (.tup [])).put d (.tup []) s.hp) else False:=gdQ_t
theorem b_aq {p:Prop}:aq2 (some (z,hp,p)) s d K=(p∧K (s.put d z hp)):=_root_.id rfl
theorem b_tn {K:S2→Prop}:thenQ2 K Q .normal s=K s:=_root_.id rfl
theorem b_tx {K:S2→Prop}:thenQ2 K Q (.exit id) s=Q (.exit id) s:=_root_.id rfl
theorem b_tr {K:S2→Prop}:thenQ2 K Q .ret s=Q .ret s:=_root_.id rfl
theorem b_in:inQ2 id Q .normal s=Q .normal s:=_root_.id rfl
theorem b_ir:inQ2 id Q .ret s=Q .ret s:=_root_.id rfl
theorem b_ix {i:Nat}:inQ2 id Q (.exit i) s=if i=id then Q .normal s else Q (.exit i) s:=_root_.id rfl
theorem b_rn {rs:List ARes} {r:Ret}:retQ2 rs m r .normal s=finP m r (toS s) (aret (toS s) rs):=_root_.id rfl
theorem b_rr {rs:List ARes} {r:Ret}:retQ2 rs m r .ret s=finP m r (toS s) (aret (toS s) rs):=_root_.id rfl
theorem b_pt:S2.put ⟨fr,hp⟩ (some t) z l' = ⟨putF fr t z,l'⟩:=_root_.id rfl
theorem b_pn:S2.put ⟨fr,hp⟩ none z l' = ⟨fr,l'⟩:=_root_.id rfl
theorem b_pi:S2.pin ⟨fr,hp⟩ t b=⟨putF fr t (.bool b),hp⟩:=_root_.id rfl
theorem b_of {f:List (Nat × AV)}:ofS ⟨f,hp⟩=⟨mkF f,hp⟩:=_root_.id rfl
theorem b_mk0:mkF []=[]:=_root_.id rfl
theorem b_mk1 {k:Nat} {v:AV} {f:List (Nat × AV)}:mkF ((k,v) :: f)=putF (mkF f) k v:=_root_.id rfl
theorem b_lk:lk2 fr n=nth1 (nthR fr (n / 16)) (n % 16):=_root_.id rfl
theorem b_put:putF fr n z=setR fr (n / 16) (n % 16) z:=_root_.id rfl
end
section
variable {x y x0 x1 x2 x3 x4 x5 x6 x7 x8 x9 x10 x11 x12 x13 x14 x15 : AV} {l a : List AV} {r : List (List AV)} {i j : Nat}
theorem nR0:nthR (a :: r) 0=a:=_root_.id rfl
theorem nRs:nthR (a :: r) (i+1)=nthR r i:=_root_.id rfl
theorem sR0:setR (a :: r) 0 j x=set1 a j x :: r:=_root_.id rfl
theorem sRs:setR (a :: r) (i+1) j x=a :: setR r i j x:=_root_.id rfl
theorem sRn:setR [] 0 j x=[set1 topR j x]:=_root_.id rfl
theorem sRm:setR [] (i+1) j x=topR :: setR [] i j x:=_root_.id rfl
theorem n_0:nth1 (x0 :: l) 0=x0:=_root_.id rfl
theorem w_0:set1 (x0 :: l) 0 y=y :: l:=_root_.id rfl
theorem n_1:nth1 (x0 :: x1 :: l) 1=x1:=_root_.id rfl
theorem w_1:set1 (x0 :: x1 :: l) 1 y=x0 :: y :: l:=_root_.id rfl
theorem n_2:nth1 (x0 :: x1 :: x2 :: l) 2=x2:=_root_.id rfl
theorem w_2:set1 (x0 :: x1 :: x2 :: l) 2 y=x0 :: x1 :: y :: l:=_root_.id rfl
theorem n_3:nth1 (x0 :: x1 :: x2 :: x3 :: l) 3=x3:=_root_.id rfl
theorem w_3:set1 (x0 :: x1 :: x2 :: x3 :: l) 3 y=x0 :: x1 :: x2 :: y :: l:=_root_.id rfl
theorem n_4:nth1 (x0 :: x1 :: x2 :: x3 :: x4 :: l) 4=x4:=_root_.id rfl
theorem w_4:set1 (x0 :: x1 :: x2 :: x3 :: x4 :: l) 4 y=x0 :: x1 :: x2 :: x3 :: y :: l:=_root_.id rfl
theorem n_5:nth1 (x0 :: x1 :: x2 :: x3 :: x4 :: x5 :: l) 5=x5:=_root_.id rfl
theorem w_5:set1 (x0 :: x1 :: x2 :: x3 :: x4 :: x5 :: l) 5 y=x0 :: x1 :: x2 :: x3 :: x4 :: y :: l:=_root_.id rfl
theorem n_6:nth1 (x0 :: x1 :: x2 :: x3 :: x4 :: x5 :: x6 :: l) 6=x6:=_root_.id rfl
theorem w_6:set1 (x0 :: x1 :: x2 :: x3 :: x4 :: x5 :: x6 :: l) 6 y=x0 :: x1 :: x2 :: x3 :: x4 :: x5 :: y :: l:=_root_.id rfl
theorem n_7:nth1 (x0 :: x1 :: x2 :: x3 :: x4 :: x5 :: x6 :: x7 :: l) 7=x7:=_root_.id rfl
theorem w_7:set1 (x0 :: x1 :: x2 :: x3 :: x4 :: x5 :: x6 :: x7 :: l) 7 y=x0 :: x1 :: x2 :: x3 :: x4 :: x5 :: x6 :: y :: l:=_root_.id rfl
theorem n_8:nth1 (x0 :: x1 :: x2 :: x3 :: x4 :: x5 :: x6 :: x7 :: x8 :: l) 8=x8:=_root_.id rfl
theorem w_8:set1 (x0 :: x1 :: x2 :: x3 :: x4 :: x5 :: x6 :: x7 :: x8 :: l) 8 y=x0 :: x1 :: x2 :: x3 :: x4 :: x5 :: x6 :: x7 :: y :: l:=_root_.id rfl
theorem n_9:nth1 (x0 :: x1 :: x2 :: x3 :: x4 :: x5 :: x6 :: x7 :: x8 :: x9 :: l) 9=x9:=_root_.id rfl
theorem w_9:set1 (x0 :: x1 :: x2 :: x3 :: x4 :: x5 :: x6 :: x7 :: x8 :: x9 :: l) 9 y=x0 :: x1 :: x2 :: x3 :: x4 :: x5 :: x6 :: x7 :: x8 :: y :: l:=_root_.id rfl
theorem n_10:nth1 (x0 :: x1 :: x2 :: x3 :: x4 :: x5 :: x6 :: x7 :: x8 :: x9 :: x10 :: l) 10=x10:=_root_.id rfl
theorem w_10:set1 (x0 :: x1 :: x2 :: x3 :: x4 :: x5 :: x6 :: x7 :: x8 :: x9 :: x10 :: l) 10 y=x0 :: x1 :: x2 :: x3 :: x4 :: x5 :: x6 :: x7 :: x8 :: x9 :: y :: l:=_root_.id rfl
theorem n_11:nth1 (x0 :: x1 :: x2 :: x3 :: x4 :: x5 :: x6 :: x7 :: x8 :: x9 :: x10 :: x11 :: l) 11=x11:=_root_.id rfl
theorem w_11:set1 (x0 :: x1 :: x2 :: x3 :: x4 :: x5 :: x6 :: x7 :: x8 :: x9 :: x10 :: x11 :: l) 11 y=x0 :: x1 :: x2 :: x3 :: x4 :: x5 :: x6 :: x7 :: x8 :: x9 :: x10 :: y :: l:=_root_.id rfl
theorem n_12:nth1 (x0 :: x1 :: x2 :: x3 :: x4 :: x5 :: x6 :: x7 :: x8 :: x9 :: x10 :: x11 :: x12 :: l) 12=x12:=_root_.id rfl
theorem w_12:set1 (x0 :: x1 :: x2 :: x3 :: x4 :: x5 :: x6 :: x7 :: x8 :: x9 :: x10 :: x11 :: x12 :: l) 12 y=x0 :: x1 :: x2 :: x3 :: x4 :: x5 :: x6 :: x7 :: x8 :: x9 :: x10 :: x11 :: y :: l:=_root_.id rfl
theorem n_13:nth1 (x0 :: x1 :: x2 :: x3 :: x4 :: x5 :: x6 :: x7 :: x8 :: x9 :: x10 :: x11 :: x12 :: x13 :: l) 13=x13:=_root_.id rfl
theorem w_13:set1 (x0 :: x1 :: x2 :: x3 :: x4 :: x5 :: x6 :: x7 :: x8 :: x9 :: x10 :: x11 :: x12 :: x13 :: l) 13 y=x0 :: x1 :: x2 :: x3 :: x4 :: x5 :: x6 :: x7 :: x8 :: x9 :: x10 :: x11 :: x12 :: y :: l:=_root_.id rfl
theorem n_14:nth1 (x0 :: x1 :: x2 :: x3 :: x4 :: x5 :: x6 :: x7 :: x8 :: x9 :: x10 :: x11 :: x12 :: x13 :: x14 :: l) 14=x14:=_root_.id rfl
theorem w_14:set1 (x0 :: x1 :: x2 :: x3 :: x4 :: x5 :: x6 :: x7 :: x8 :: x9 :: x10 :: x11 :: x12 :: x13 :: x14 :: l) 14 y=x0 :: x1 :: x2 :: x3 :: x4 :: x5 :: x6 :: x7 :: x8 :: x9 :: x10 :: x11 :: x12 :: x13 :: y :: l:=_root_.id rfl
theorem n_15:nth1 (x0 :: x1 :: x2 :: x3 :: x4 :: x5 :: x6 :: x7 :: x8 :: x9 :: x10 :: x11 :: x12 :: x13 :: x14 :: x15 :: l) 15=x15:=_root_.id rfl
theorem w_15:set1 (x0 :: x1 :: x2 :: x3 :: x4 :: x5 :: x6 :: x7 :: x8 :: x9 :: x10 :: x11 :: x12 :: x13 :: x14 :: x15 :: l) 15 y=x0 :: x1 :: x2 :: x3 :: x4 :: x5 :: x6 :: x7 :: x8 :: x9 :: x10 :: x11 :: x12 :: x13 :: x14 :: y :: l:=_root_.id rfl
end
end Go.Proofs.YtakolikdebfkeaaDoor
namespace Go.Proofs.YtakolikdebfkeaaDoor
open Go.RowKit
def pv:AV→Bool
 | .int _ _=>true
 | .bool _=>true
 | .str _=>true
 | .blob _=>true
 | .sl _ _=>true
 | .ptr _ _ _ _=>true
 | .fn _ a c=>a.isEmpty && c.isEmpty
 | _=>false
def pvs:List AV→Bool
 | []=>true
 | x :: r=>pv x && pvs r
def pvr:AV→Bool
 | .tup xs=>pvs xs
 | x=>pv x
theorem pv_bor {hp:List AObj} {x:AV} (h:pv x=true):bor1 hp x=some (x,[]):=by
 cases x <;> first | rfl | cases h
theorem pv_ids {d:Nat} {x:AV} (h:pv x=true):idsOf d x=[]:=by
 cases d with
 | zero=>rfl
 | succ d =>
  cases x <;> first | rfl | cases h | skip
  rename_i f a c
  simp only [pv,Bool.and_eq_true,List.isEmpty_iff] at h
  obtain ⟨rfl,rfl⟩:=h
  rfl
theorem pv_ren {σ:Nat→Option Nat} {d:Nat} {x:AV} (h:pv x=true):ren σ (d+1) x=some x:=by
 cases x <;> first | rfl | cases h | skip
 rename_i f a c
 simp only [pv,Bool.and_eq_true,List.isEmpty_iff] at h
 obtain ⟨rfl,rfl⟩:=h
 rfl
theorem pvs_bor {hp:List AObj}:∀ {xs:List AV} (m:List Bool),pvs xs=true→bor hp m xs=some (xs,[]):=by
 intro xs
 induction xs with
 | nil=>intro m _; cases m <;> rfl
 | cons x xs ih =>
  intro m h
  simp only [pvs,Bool.and_eq_true] at h
  cases m with
  | nil=>simp only [bor,pv_bor h.1,ih [] h.2]; rfl
  | cons b m =>
   cases b with
   | true=>simp only [bor,ih m h.2]
   | false=>simp only [bor,pv_bor h.1,ih m h.2]; rfl
theorem pvs_ids {d:Nat}:∀ {xs:List AV},pvs xs=true→xs.flatMap (idsOf d)=[]:=by
 intro xs
 induction xs with
 | nil=>intro _; rfl
 | cons x xs ih =>
  intro h
  simp only [pvs,Bool.and_eq_true] at h
  rw [List.flatMap_cons,pv_ids h.1,ih h.2]; rfl
theorem pvs_ren {σ:Nat→Option Nat} {d:Nat}:∀ {xs:List AV},pvs xs=true→mapO (ren σ (d+1)) xs=some xs:=by
 intro xs
 induction xs with
 | nil=>intro _; rfl
 | cons x xs ih =>
  intro h
  simp only [pvs,Bool.and_eq_true] at h
  simp only [mapO,pv_ren h.1,ih h.2]
def isP (xs:List AV):Prop:=pvs xs=true
instance (xs:List AV):Decidable (isP xs):=inferInstanceAs (Decidable (_=_))
theorem isP_nil:isP []=True:=eq_true rfl
theorem isP_cons {x:AV} {xs:List AV}:isP (x :: xs)=if pv x then isP xs else False:=by
 cases h:pv x <;> simp [isP,pvs,h]
theorem acall0_if {hp:List AObj} {n:Nat} {«as»:List AV} {m:List Bool} {sp:Spec}:acall0 hp n «as» (some (m,sp))=if isP «as» then acall3 n [] [] (sp «as» []) else acall1 hp n sp (bor hp m «as»):=by
 split
 ·rename_i h
  have h:pvs «as»=true:=h
  simp only [acall0,pvs_bor m h,acall1,pvs_ids h]
  show acall2 hp n sp («as»,[]) ([],[]) ([],[])=_
  simp only [acall2,pvs_ren h]
  rfl
 ·rfl
theorem acall3_none {n:Nat} {brw ids:List Nat}:acall3 n brw ids none=none:=rfl
def acall3b (n:Nat) (brw ids:List Nat) (r:Ret):Option (AV × List Nat × List AObj × Prop) :=
 match ren (tau n ids r.hp.length) 4 r.v,mapO (renObj (tau n ids r.hp.length)) r.hp,flatC brw r.v r.hp with
  | some x,some os,some q=>if ids.length≤r.hp.length then some (x,ids,os,r.pre∧q) else none
  | _,_,_=>none
def emp3 {α β γ:Type}:List α→List β→List γ→Bool
 | [],[],[]=>true
 | _,_,_=>false
theorem acall3_if {n:Nat} {brw ids:List Nat} {v:AV} {hp:List AObj} {p:Prop}:acall3 n brw ids (some ⟨v,hp,p⟩)=if emp3 brw ids hp=true then (if pvr v then some (v,[],[],p) else acall3b n brw ids ⟨v,hp,p⟩) else acall3b n brw ids ⟨v,hp,p⟩:=by
 split
 ·split
  ·rename_i h1 h2
   match brw,ids,hp,h1 with
   | [],[],[],_ =>
    unfold acall3
    have:ren (tau n [] 0) 4 v=some v:=by
     cases v <;> first | exact pv_ren h2 | skip
     rename_i xs
     show (mapO (ren _ 3) xs).map AV.tup=_
     rw [pvs_ren h2]; rfl
    simp only [List.length_nil,this,mapO,flatC,List.isEmpty_nil,if_true,Nat.le_refl,and_true]
  ·rfl
 ·rfl
def b8 (n:Int):UInt8:=UInt8.ofNat (n % 256).toNat
theorem Bs_set {l:List UInt8} {i:Nat} {u:UInt8}:(Bs l).set i (.int .u8 (u.toNat:Int))=Bs (l.set i u):=by unfold Bs; rw [List.map_set]; rfl
end Go.Proofs.YtakolikdebfkeaaDoor
