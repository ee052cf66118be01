import Derived.Test.YtakolikdebfkeaaDoorQAM3
import Derived.Test.YtakolikdebfkeaaDoorRows
import Derived.Handed
import Derived.LaidMore
import Derived.LaidLaws
import Derived.LaidHandle
import Derived.MakeChecks
import Derived.SizedLaws
import Derived.Shelf.Vars
import Derived.OpenShut
import Derived.ChangeArms
import Derived.Stop.Joined
open Nat (reduceDiv reduceMod reduceSub reduceAdd reduceLeDiff reduceEqDiff)
set_option linter.all false
namespace Go.Proofs.YtakolikdebfkeaaDoor
open Go.RowKit
theorem ofC_map_U (l:List UInt8):List.map ofC (List.map U l)=Bs l:=by
 induction l with
 | nil=>rfl
 | cons u l ih=>simp only [List.map_cons,ih,ofC_U]; rfl
attribute [go_sem] b_skip b_reg b_draw b_seq b_cond b_block b_loop b_exit b_ret b_nil b_op b_gt b_gf b_dnil b_dop b_dgt b_aq isB_t isB_u isB_f isB_g isB_p isU_t isU_b ifB_t ifB_f b_tn b_tx b_tr b_in b_ir b_ix b_rn b_rr b_pt b_pn b_pi b_of b_mk0 b_mk1 b_lk b_put nR0 nRs sR0 sRs sRn sRm topR hp_toS lk_toS exD AOp.isH keepN preB avalP pureR astep stV stN stE stC aval anew aElems frzS frzH aeff slots aret ares aress AV.isTup n_0 w_0 n_1 w_1 n_2 w_2 n_3 w_3 n_4 w_4 n_5 w_5 n_6 w_6 n_7 w_7 n_8 w_8 n_9 w_9 n_10 w_10 n_11 w_11 n_12 w_12 n_13 w_13 n_14 w_14 n_15 w_15 eqFs aEqS ofC_i ofC_b ofC_s ofC_U getD_mapU getD_Bs Bs_len Int.toNat_natCast opd pt tk subp rdP Rt.size Rt.isAgg Rt.zv aBin aInt aStr arI aUn aToInt aToStr aIdxS zv aIdxA aIa aIaA aFa aLd aFld pparts aLo aHi cutL aSlS aSl aExt aNck aNilc AV.isStr aLen AV.one AV.multi pureB szOk psz drp spl aEqB aEqA aMm aMkfn aMkif aBuild toV aBuildA wrP unparts view nilS St.ev lk St.put St.pin St.pinV acall0_if acall1 acall2 acall3_none acall3_if acall3b emp3 pv pvr pvs isP_nil isP_cons bor bor0 bor1 phiL_nil phiL_at tau lentO okIds flatC flatB flatOs flatO flatPs place setAll_nil setAll_cons nodupB renObj closeIds addNew idsOf idsObj posOf lenOk_0 lenOk_1 lenOk_2 lenOk_3 lenOk_4 lenOk_8 Option.isSome_none Option.isSome_some Bool.or_true Bool.true_or beq_self_eq_true List.map List.set List.map_cons List.map_nil List.flatMap_cons List.flatMap_nil List.flatten_cons List.flatten_nil true_and and_true List.length_cons List.length_nil List.nil_append List.cons_append List.append_nil Option.map mapO ren kp kpI ent nilG Option.bind List.range List.range.loop List.getElem?_cons_zero List.getElem?_cons_succ List.getElem?_nil List.getD_cons_zero List.getD_cons_succ List.drop_zero List.drop_succ_cons List.drop_nil List.take_zero List.take_succ_cons List.all_cons List.all_nil List.isEmpty_nil List.isEmpty_cons Bool.and_true Bool.true_and Bool.not_true Bool.not_false List.contains_nil List.contains_cons Bool.or_false Bool.false_or eq_self forall_const false_implies Bool.false_eq_true Nat.le_refl List.length_map List.length_set List.length_replicate and_self implies_true Bool.and_self Bool.false_and Bool.and_false finP finI Int.cast_ofNat_Int decide_true decide_false aMget aTas aMlen aArr mkOf AV.real viewC viewA cutB aSlA ofC_map_U

abbrev oS (n : Nat) (x : AOp) : AOper := ⟨some n, x, none⟩
abbrev oN (x : AOp) : AOper := ⟨none, x, none⟩
abbrev oG (n : Nat) (x : AOp) (t : Nat) : AOper := ⟨some n, x, some (t, true)⟩
abbrev oH (n : Nat) (x : AOp) (t : Nat) : AOper := ⟨some n, x, some (t, false)⟩
attribute [go_sem] oS oN oG oH
end Go.Proofs.YtakolikdebfkeaaDoor
namespace Go.Proofs.YtakolikdebfkeaaDoor
open Go.RowKit
theorem returns_shaped {H:Type} {enc:TypeId × Value→H} {f:FuncId} {fn:Func} {a:Assume} {C:Checked} {os:Os} {s:ChangeSpec} {conds:List PathCond} {apart fresh handsOn again:Bool} {X:World→Array Value→Prop}
  (hX:∀ (w w' : World) (args:Array Value),w.heap=w'.heap→X w args→X w' args)
  (own:ownKnob C.prog.godebug=none) (started:os.Started) (noInit:C.prog.inits.idxOf? f=none) (hfn:C.prog.funcs[f]?=some fn)
  (witness:∃ (w:World) (tape:Tape) (i:Input),w.os=os∧(w.forCall tape i).Shaped C.prog∧i.vars=[]∧Input.okWide C.prog (w.forCall tape i) .any w.heap.size f i ∧
   ((s.pre enc C.prog fn conds apart (w.forCall tape i).memory i.args∧X (w.forCall tape i).memory i.args)∧sizedMet enc C.prog fn (OpenSpec.ofChange s) apart (w.forCall tape i).memory i.args)∧a.holds C.prog (lone (Frame.enter C.prog f i.args .normal) [] (w.forCall tape i)))
  (contract:∀ (W:World) (base:Nat) (args:Array Value) (ds gs:List (DataW H)) (before:List MemPlace),
   (∀ (j:Nat) t v,fn.params[j]?=some t→args[j]?=some v→Value.okWide C.prog W .any base t v) →
   DataW.Whole enc C.prog fn.params.toList s.vars apart W args.toList ds gs before →
   X W args→W.ShapedOpen C.prog →
   Calls C.prog f args W fun e W' => ∃ v,e=.returned v∧s.post enc C.prog fn apart fresh handsOn again W args v W') :
  ReturnsInHanded a C os f .any (fun w args=>(s.pre enc C.prog fn conds apart w args∧X w args)∧sizedMet enc C.prog fn (OpenSpec.ofChange s) apart w args) (s.post enc C.prog fn apart fresh handsOn again):=by
 refine returnsInHanded_of_calls own started noInit witness ?_
 intro w tape i _ hsh _ hok hpre _
 obtain ⟨_,_,_,fn',hfn',_,_,_,_,hval⟩:=hok
 obtain rfl:fn' = fn:=Option.some.inj (hfn'.symm.trans hfn)
 obtain ⟨⟨⟨ds,gs,before,hw,_⟩,hx⟩,_⟩:=hpre
 refine (contract (w.forCall tape i) w.heap.size i.args ds gs before hval (DataW.Whole.of_heap (w' := w.forCall tape i) (by rfl) hw) (hX _ _ _ (by rfl) hx) hsh).mono fun e W' ⟨v,he,hp⟩=>?_
 subst he
 exact ChangeSpec.post_blind hp
end Go.Proofs.YtakolikdebfkeaaDoor
namespace Go.Proofs.YtakolikdebfkeaaDoor
open Go.RowKit
def GeOk (w:World) (S:Nat→Prop):Nat × GE→Prop
 | (g,.cells cs)=>S g∧(∀ u∈cs,u.oneCell' = true)∧∃ t fr,w.heap[g]?=some (.cells cs.toArray t fr)
 | (g,.err t l)=>S g∧∃ b o ty fr,w.heap[g]?=some (.cells #[.iface t (.pointer (some ⟨b,o,none⟩))] ty fr)∧S b∧w.cell? ⟨b,o,none⟩=some (.string ⟨l.toArray⟩)
theorem glob1_ok {w:World} {S:Nat→Prop} {g sz:Nat} {x:AV}:∀ l:List (Nat × GE),(∀ e∈l,GeOk w S e)→glob1 g l=some (sz,x)→S g∧∃ us t fr,Cs w S rho0 x us∧us.length=sz∧w.heap[g]?=some (.cells us.toArray t fr):=by
 intro l
 induction l with
 | nil=>intro _ h; cases h
 | cons e l ih =>
  intro h hg
  obtain ⟨k,e⟩:=e
  have h0:=h _ (List.mem_cons_self ..)
  have h1:=ih (fun e he=>h e (List.mem_cons_of_mem _ he))
  cases e with
  | cells cs =>
   simp only [glob1] at hg
   split at hg
   ·rename_i e
    subst e
    simp only [Option.some.injEq,Prod.mk.injEq] at hg
    obtain ⟨rfl,rfl⟩:=hg
    obtain ⟨a1,a2,t,fr,a3⟩:=h0
    exact ⟨a1,cs,t,fr,.blob cs a2,rfl,a3⟩
   ·exact h1 hg
  | err t l =>
   simp only [glob1] at hg
   split at hg
   ·rename_i e
    subst e
    simp only [Option.some.injEq,Prod.mk.injEq] at hg
    obtain ⟨rfl,rfl⟩:=hg
    obtain ⟨a1,b,o,ty,fr,a2,a3,a4⟩:=h0
    refine ⟨a1,[.iface t (.pointer (some ⟨b,o,none⟩))],ty,fr,?_,rfl,a2⟩
    have hp:Cs w S rho0 (.ptr 1 (.str l) 0 0) [.pointer (some ⟨b,o+(0+0),none⟩)]:=.ptr 1 (.str l) 0 0 [.string ⟨l.toArray⟩] b o a3 (.str l) rfl (fun j hj=>by
     have:j=0:=by simpa using hj
     subst this
     simpa using a4)
    exact .iface t _ _ hp
   ·exact h1 hg
theorem globOk_of {w:World} {S:Nat→Prop} (h:∀ e∈globs,GeOk w S e) (hi:∀ g,globInts.contains g=true→S g∧∃ m,w.cell? ⟨g,0,none⟩=some (.int .i64 m)):GlobOk w S:=⟨fun _ _ _ hg=>glob1_ok globs h hg,hi⟩
theorem laidVars_at {P:Program} {w:World}:∀ (l:List (String × DataW Unit)) {ps:List MemPlace},DataW.LaidVars P w l ps→∀ (i:Nat) (n:String) (d:DataW Unit),l[i]?=some (n,d) →
  ∃ g t cs fuel p,P.globalNamed n=some g∧(P.globals[g]?).map (·.type)=some t∧w.var? P n=some cs∧DataW.trod (fun _=>()) P w 0 (fun _=>true) false fuel t cs.toList=some (d,p)∧(∀ x∈MemPlace.row ⟨g,0,none⟩ cs.size,x∈ps)∧(∀ x∈p,x∈ps):=by
 intro l
 induction l with
 | nil=>intro ps _ i n d h; simp at h
 | cons e l ih =>
  intro ps h i n d hi
  obtain ⟨n0,d0⟩:=e
  obtain ⟨g,t,cs,fuel,p,q,h1,h2,h3,h4,h5,rfl⟩:=h
  cases i with
  | zero =>
   simp only [List.getElem?_cons_zero,Option.some.injEq,Prod.mk.injEq] at hi
   obtain ⟨rfl,rfl⟩:=hi
   exact ⟨g,t,cs,fuel,p,h1,h2,h3,h4,fun x hx=>by simp [hx],fun x hx=>by simp [hx]⟩
  | succ i =>
   obtain ⟨g',t',cs',fuel',p',k1,k2,k3,k4,k5,k6⟩:=ih h5 i n d (by simpa using hi)
   exact ⟨g',t',cs',fuel',p',k1,k2,k3,k4,fun x hx=>by simp [k5 x hx],fun x hx=>by simp [k6 x hx]⟩
theorem var_heap {P:Program} {w:World} {n:String} {g:Nat} {cs:Array Value} (hg:P.globalNamed n=some g) (h:w.var? P n=some cs):∃ t fr,w.heap[g]?=some (.cells cs t fr):=by
 simp only [World.var?,hg,Option.bind_some] at h
 split at h
 ·rename_i cs' t fr e
  injection h with h
  subst h
  exact ⟨t,fr,e⟩
 ·cases h
theorem lt_of_heap {w:World} {b:Nat} {x:Obj} (h:w.heap[b]?=some x):b<w.heap.size:=(Array.getElem?_eq_some_iff.1 h).1
theorem ge_cells {P:Program} {w:World} {l:List (String × DataW Unit)} {n:String} {k:IntKind} {zs:List Int} {g:Nat} {t e:TypeId} (h:laidMet P l w) (i:Nat)
  (hm:l[i]?=some (n,.agg (zs.map fun z=>.lit (.int k z)))) (hg:P.globalNamed n=some g) (ht:(P.globals[g]?).map (·.type)=some t) (ha:P.underlying t=some (.array zs.length e)) (hct:P.cellsOf t=zs.length)
  (he:P.underlying e=some (.int k)) (hc:P.cellsOf e=1):GeOk w (fun b=>b<w.heap.size) (g,.cells (zs.map fun z=>.int k z)):=by
 obtain ⟨ps,hv,_,_⟩:=h
 obtain ⟨g',t',cs,fuel,p,h1,h2,h3,h4,_,_⟩:=laidVars_at l hv i n _ hm
 obtain rfl:=Option.some.inj (hg.symm.trans h1)
 obtain rfl:=Option.some.inj (ht.symm.trans h2)
 obtain ⟨ty,fr,hh⟩:=var_heap hg h3
 obtain ⟨xs,m,_,hx,hl,hn,hel⟩:=DataW.trod_array ha h4
 simp only [Prod.mk.injEq,DataW.agg.injEq] at hx
 have hcs:cs.toList=zs.map fun z=>Value.int k z:=by
  refine List.ext_getElem? fun j=>?_
  rcases Nat.lt_or_ge j zs.length with hj | hj
  ·have h5:=hel j hj
   rw [hc] at h5
   obtain ⟨x,hxj⟩:∃ x,xs[j]?=some x:=⟨xs[j]'(by omega),List.getElem?_eq_getElem (by omega)⟩
   rw [hxj] at h5
   obtain ⟨z,e1,e2,_⟩:=DataW.trod_int he h5
   have e3:=congrArg (fun l=>l[j]?) hx.1
   simp only [List.getElem?_map,hxj,Option.map_some,List.getElem?_eq_getElem hj] at e3
   rw [e2] at e3
   simp only [Option.some.injEq,DataW.lit.injEq,Lit.int.injEq,true_and] at e3
   have e4:=congrArg (fun l=>l[0]?) e1
   simp only [List.getElem?_take,List.getElem?_drop,List.getElem?_cons_zero,Nat.lt_one_iff] at e4
   simp only [Nat.mul_one,Nat.add_zero,if_true] at e4
   rw [e4,List.getElem?_map,List.getElem?_eq_getElem hj,e3]
   rfl
  ·rw [List.getElem?_eq_none (by omega),List.getElem?_eq_none (by simpa using hj)]
 refine ⟨lt_of_heap hh,fun u hu=>?_,ty,fr,by rw [hh,← hcs]⟩
 obtain ⟨z,_,rfl⟩:=List.mem_map.1 hu
 rfl
theorem glob_of_laid {W : World} (h0 : laidMetH Tryd.prog Rows.packJoinsRow.laid W) (hsh : W.ShapedOpen Tryd.prog) : GlobOk W (fun b => b < W.heap.size) := by
 rw [MakeChecks.laidMetH_plain _ _ _ (by kernel_rfl)] at h0
 have h : laidMet Tryd.prog Rows.packJoinsRow.laid W := h0
 refine globOk_of (fun e he => ?_) (fun g hx => by
  obtain rfl : g = 0 := by simpa [globInts] using hx
  obtain ⟨m, hm⟩ := cell_of_shapedOpen_int (zero := #[.int .i64 0]) (t := 3) (g := 0) hsh (of_decide_eq_true (by kernel_rfl)) (by kernel_rfl) rfl (by kernel_rfl) (by kernel_rfl) Tryd.underlying3
  exact ⟨World.block_lt_of_cell? _ _ hm, m, hm⟩)
 simp only [globs, List.mem_cons, List.not_mem_nil, or_false] at he
 rcases he with rfl
 ·exact ge_cells (n := "internal/strconv.uint64pow10") (k := .u64) (t := 193) (e := 39) (zs := [1, 10, 100, 1000, 10000, 100000, 1000000, 10000000, 100000000, 1000000000, 10000000000, 100000000000, 1000000000000, 10000000000000, 100000000000000, 1000000000000000, 10000000000000000, 100000000000000000, 1000000000000000000, 10000000000000000000]) h 2 rfl (by kernel_rfl) (by kernel_rfl) (by kernel_rfl) (by kernel_rfl) (by kernel_rfl) (by kernel_rfl)
end Go.Proofs.YtakolikdebfkeaaDoor
namespace Go.Proofs.YtakolikdebfkeaaDoor
open Go.RowKit
section
variable {P : Program} {f : FuncId} {sp sp1 sp2 : Spec}
end
section
variable {P : Program} {f : FuncId} {sp : Spec}
end
theorem loop2P {Φ:Phi} {m:Nat} {c:ACode} {Q:Exit→S2→Prop} {s:S2} {α:Type} (nils:List (Nat × TypeId × Nat)) (sl ids:List Nat) (st:α→St) (Inv:α→Prop) (μ:α→Nat) (a0:α) (hk:ent nils sl ids (toS s)=some (st a0)) (h0:Inv a0) (hm:nodupB ids=true∧ids.take m=List.range m)
  (h:∀ a,Inv a→∀ R:S2→Prop,(∀ s' a',Inv a' → μ a' < μ a→kp sl ids.length (toS s')=some (st a')→R s')→awp2 Φ m c (thenQ2 R Q) (ofS (st a))):loopQ2 m (awp2 Φ m c) Q s :=
 loop2 nils sl ids st Inv μ a0 hk h0 hm fun a ha=>h a ha _ fun _ a' h1 h2 h3=>⟨a',h1,h2,h3⟩
end Go.Proofs.YtakolikdebfkeaaDoor
namespace Go.Proofs.YtakolikdebfkeaaDoor
open Go.RowKit
def fzD (hp:List AObj):Nat→AV→AV
 | 0,x=>x
 | d+1,x=>match x with
  | .own i ver=>match hp[i]? with
   | some (.row _ sz v xs)=>if v=ver∧0<sz then .sl sz xs else x
   | some (.froz sz v xs)=>if v=ver then .sl sz xs else x
   | _=>x
  | .agg ps=>.agg (ps.map fun p=>(p.1,fzD hp d p.2))
  | .con (.slice none 0 0)=>.sl 1 []
  | _=>x
def fzV (hp:List AObj):AV→AV
 | .tup l=>.tup (l.map (fzD hp 3))
 | x=>fzD hp 3 x
def pureV:AV→Bool
 | .tup l=>l.all (pureB 4)
 | x=>pureB 4 x
def rowsB (hp:List AObj):Bool:=hp.all fun o=>match o with | .row _ _ _ _=>true | .froz _ _ _=>true | _=>false
section
variable {P : Program} {f : FuncId} {sp sp1 : Spec} {w0 w : World} {F S : Nat → Prop} {ρ : Rho} {hp : List AObj}
def withRows (S:Nat→Prop) (ρ:Rho) (hp:List AObj) (b:Nat):Prop:=S b∨∃ (i:Nat) (o:AObj),hp[i]?=some o∧o.blk ρ i=some b
theorem cs_slice {x:AV} {v:Value} {A:Option Addr} {n c:Nat} {sz:Nat} {xs:List AV} (h:Vl w S ρ (.sl sz xs) (.slice A n c)):Cs w S ρ (.sl sz xs) [.slice A n c]:=by
 rcases h with h | ⟨us,h,h2⟩
 ·cases h
 ·cases h with
  | sl0 sz A' c' hc =>
   have e:(Value.slice A n c)=.slice A' 0 c' := h2
   rw [e]; exact .sl0 sz A' c' hc
  | sl sz xs us b o c' h1 h3 h4 h5 h6 h7 =>
   have e:(Value.slice A n c)=.slice (some ⟨b,o,none⟩) xs.length c' := h2
   rw [e]; exact .sl sz xs us b o c' h1 h3 h4 h5 h6 h7
theorem fzD_ok (H:HeapOk F w0 S ρ hp w):∀ (d:Nat) {x:AV} {us:List Value},Cs w S ρ x us→Cs w (withRows S ρ hp) ρ (fzD hp d x) us:=by
 have ext:∀ {x:AV} {us:List Value},Cs w S ρ x us→Cs w (withRows S ρ hp) ρ x us:=fun h=>h.ext (fun _ _=>rfl) (fun b hb=>Or.inl hb) (fun _ _ _ h=>h)
 intro d
 induction d with
 | zero=>intro x us h; exact ext h
 | succ d ih =>
  intro x us h
  cases x with
  | own i ver =>
   rw [fzD]
   cases ho:hp[i]? with
   | none=>exact ext h
   | some o =>
    cases o with
    | row e sz v xs =>
     simp only
     by_cases hc:v=ver∧0<sz
     ·rw [if_pos hc]
      obtain ⟨rfl,hsz⟩:=hc
      obtain ⟨L,us',o1,o2,o3,o4,o5,o6⟩:=H.ob i _ ho
      subst o3
      cases h with
      | own _ _ L' e1 =>
       rw [o1] at e1; injection e1 with e1; subst e1
       have hM:=o4.mem o2 o5
       have hblk:(AObj.row e L.sz v xs).blk ρ i=ablk L.A:=by simp [AObj.blk,o1]
       have hv:Vl w (withRows S ρ hp) ρ (.sl L.sz xs) (.slice L.A L.n L.c):=hM.sl hsz (fun b hb=>Or.inr ⟨i,_,ho,by rw [hblk]; exact hb⟩) (fun b hb=>Or.inl hb)
       exact cs_slice (x:=.top) (v:=undef) hv
     ·rw [if_neg hc]; exact ext h
    | cells _ _=>exact ext h
    | mp _ _=>exact ext h
    | froz sz v xs =>
     simp only
     by_cases hc:v=ver
     ·rw [if_pos hc]
      subst hc
      obtain ⟨L,o1,o2,o3,o4⟩:=H.ob i _ ho
      cases h with
      | own _ _ L' e1 =>
       rw [o1] at e1; injection e1 with e1; subst e1
       exact o4.ext (fun _ _=>rfl) (fun b hb=>Or.inl hb) (fun _ _ _ h=>by cases h)
     ·rw [if_neg hc]; exact ext h
    | gone=>exact ext h
  | agg ps =>
   rw [fzD]
   cases h with
   | agg _ uss h1 h2 h3 =>
    have hl:(ps.map fun p=>(p.1,fzD hp d p.2)).length=ps.length:=List.length_map ..
    have hg:∀ i,i<ps.length→(ps.map fun p=>(p.1,fzD hp d p.2)).getD i (0,.top)=((ps.getD i (0,.top)).1,fzD hp d (ps.getD i (0,.top)).2):=fun i hi=>by
     simp [List.getD_eq_getElem?_getD,List.getElem?_map,List.getElem?_eq_getElem hi]
    refine .agg _ uss (by rw [hl]; exact h1) (fun i hi=>?_) (fun i hi=>?_)
    ·rw [hl] at hi; rw [hg i hi]; exact h2 i hi
    ·rw [hl] at hi; rw [hg i hi]; exact ih (h3 i hi)
  | con v =>
   cases v with
   | slice A n c =>
    cases A with
    | some a=>exact ext h
    | none =>
     cases n with
     | succ n=>exact ext h
     | zero =>
      cases c with
      | succ c=>exact ext h
      | zero =>
       cases h with
       | con _ _=>exact .sl0 1 none 0 (by omega)
   | _=>exact ext h
  | _=>exact ext h
theorem fzD_nt (hp:List AObj) (d:Nat) {x:AV} (h:∀ ys,x≠.tup ys):∀ ys,fzD hp d x≠.tup ys:=by
 intro ys
 cases d with
 | zero=>exact h ys
 | succ d =>
  cases x with
  | tup l=>exact absurd rfl (h l)
  | own i ver =>
   rw [fzD]
   cases hp[i]? with
   | none=>intro hh; cases hh
   | some o =>
    cases o with
    | row e sz v xs=>simp only; split <;> (intro hh; cases hh)
    | froz sz v xs=>simp only; split <;> (intro hh; cases hh)
    | _=>intro hh; cases hh
  | con v =>
   cases v with
   | slice A n c=>cases A <;> cases n <;> cases c <;> (intro hh; cases hh)
   | _=>intro hh; cases hh
  | _=>intro hh; cases hh
theorem fzD_wrap (hp:List AObj) (d:Nat) (x:AV) (us:List Value):wrapv (fzD hp d x) us=wrapv x us:=by
 cases d with
 | zero=>rfl
 | succ d =>
  cases x with
  | own i ver =>
   rw [fzD]
   cases hp[i]? with
   | none=>rfl
   | some o =>
    cases o with
    | row e sz v xs=>simp only; split <;> rfl
    | froz sz v xs=>simp only; split <;> rfl
    | _=>rfl
  | con v =>
   cases v with
   | slice A n c=>cases A <;> cases n <;> cases c <;> rfl
   | _=>rfl
  | _=>rfl
theorem FnOk.freezeD (h:FnOk P f sp1) (hh:∀ «avs» hp r',sp «avs» hp=some r' → r'.pre→hp=[]∧∃ r,sp1 «avs» []=some r∧r.pre∧rowsB r.hp=true∧r'.v=fzV r.hp r.v∧pureV r'.v=true∧r'.hp=[]):FnOk P f sp:=by
 intro «avs» hp r' hs hp' w S ρ args H ha
 obtain ⟨rfl,r,k1,k2,k3,k4,k5,k6⟩:=hh «avs» hp r' hs hp'
 refine (h «avs» [] r k1 k2 w S ρ args H ha).mono ?_
 rintro e0 w' ⟨v,S',ρ',rfl,hv,H',hE,hS⟩
 have one1:∀ x u,pureB 4 (fzD r.hp 3 x)=true→Vl1 w' S' ρ' x u→Vl1 w' (withRows S' ρ' r.hp) ρ (fzD r.hp 3 x) u:=by
  intro x u hx hu
  rcases hu with rfl | ⟨vs,hc,hu⟩
  ·exact .inl rfl
  ·exact .inr ⟨vs,pureB_ok 4 (fzD_ok H' 3 hc) hx,by rw [hu,fzD_wrap]⟩
 refine ⟨v,withRows S' ρ' r.hp,ρ,rfl,?_,?_,⟨hE.mem,fun b hb=>Or.inl (hE.st b hb),fun _ _ _ h=>h⟩,?_⟩
 ·rw [k4] at k5 ⊢
  cases hrv:r.v with
  | tup l =>
   rw [hrv] at hv k5
   obtain ⟨vs,e1,e2,e3⟩:=hv
   refine ⟨vs,e1,by simpa using e2,fun i hi=>?_⟩
   simp only [List.length_map] at hi
   have e4:(l.map (fzD r.hp 3)).getD i .top=fzD r.hp 3 (l.getD i .top):=by
    rw [List.getD_eq_getElem?_getD,List.getElem?_map,List.getD_eq_getElem?_getD,List.getElem?_eq_getElem hi]; rfl
   rw [e4]
   refine one1 _ _ ?_ (e3 i hi)
   have:=List.all_eq_true.1 k5 (fzD r.hp 3 (l.getD i .top)) (by
    rw [List.getD_eq_getElem?_getD,List.getElem?_eq_getElem hi]; exact List.mem_map_of_mem (List.getElem_mem _))
   exact this
  | _ =>
   rw [hrv] at hv k5
   have hnt:=fzD_nt r.hp 3 (x:=r.v) (by rw [hrv]; intro ys hy; cases hy)
   rw [hrv] at hnt
   refine Vl.of1 hnt (one1 _ v ?_ (Vl.to1 (by intro xs hx; cases hx) hv))
   revert k5
   simp only [fzV]
   unfold pureV
   split
   ·rename_i l hl; exact absurd hl (hnt l)
   ·exact id
 ·rw [k6]
  refine ⟨H'.kept,fun id o ho=>by simp at ho,fun i j x y _ hx=>by simp at hx,fun id o ho=>by simp at ho,fun b hb=>?_,fun id _ v=>H.new id (Nat.zero_le _) v,fun id o ho=>by simp at ho⟩
  rcases hb with hb | ⟨i,o,ho,hb⟩
  ·exact H'.slt b hb
  ·have hro:=List.all_eq_true.1 k3 o (List.mem_of_getElem? ho)
   cases o with
   | row e sz ver xs =>
    obtain ⟨L,us,o1,o2,o3,o4,o5,o6⟩:=H'.ob i _ ho
    have hblk:(AObj.row e sz ver xs).blk ρ' i=ablk L.A:=by simp [AObj.blk,o1]
    rw [hblk] at hb
    rcases o4.2 with ⟨z1,_,_⟩ | ⟨g,cur,fr,z1,z2,_⟩
    ·rw [z1] at hb; cases hb
    ·rw [z1] at hb
     have:g=b:=by simpa [ablk] using hb
     subst this
     exact (Array.getElem?_eq_some_iff.1 z2).1
   | froz sz ver xs=>cases hb
   | _=>cases hro
 ·rintro b (hb | ⟨i,o,ho,hb⟩)
  ·exact hS b hb
  ·rcases H'.mine i _ ho b hb with h1 | h1
   ·exact .inr (.inr h1)
   ·exact .inr (.inl h1)
end
end Go.Proofs.YtakolikdebfkeaaDoor
namespace Go.Proofs.YtakolikdebfkeaaDoor
open Go.RowKit
inductive ZW (Φ:Phi) (m:Nat):ACode→(Exit→S2→Prop)→S2→Prop
 | run {c:ACode} {Q:Exit→S2→Prop} {s:S2} (Q1:Exit→S2→Prop):(∀ e s,Q1 e s→Q e s)→awp2 Φ m c Q1 s→ZW Φ m c Q s
 | seq {x y:ACode} {Q:Exit→S2→Prop} {s:S2} (K:S2→Prop):ZW Φ m x (thenQ2 K Q) s→(∀ s1,K s1→ZW Φ m y Q s1)→ZW Φ m (.seq x y) Q s
 | cond {c:Opd} {x y:ACode} {Q:Exit→S2→Prop} {s:S2} (b:Bool):(toS s).ev c=.bool b→(b=true→ZW Φ m x Q s)→(b=false→ZW Φ m y Q s)→ZW Φ m (.cond c x y) Q s
 | frz {c:ACode} {Q:Exit→S2→Prop} {s:S2} (l:List Nat) (hp:List AObj):frzH s.hp l=some hp→ZW Φ m c Q ⟨s.fr,hp⟩→ZW Φ m c Q s
 | kp {c:ACode} {Q:Exit→S2→Prop} {s:S2} (nils:List (Nat × TypeId × Nat)) (slots ids:List Nat) (s' : St):nodupB ids=true→ids.take m=List.range m→ent nils slots ids (toS s)=some s' → ZW Φ m c Q (ofS s')→ZW Φ m c Q s
section
variable {P : Program} {Φ : Phi} {F : Nat → Prop} {w0 w : World} {S0 S : Nat → Prop} {ρ0 ρ : Rho} {N m : Nat} {ds : List Deferred} {a : Act}
theorem Rel.frz {s:St} {l:List Nat} {hp:List AObj} (h:frzH s.hp l=some hp) (R:Rel F w0 S0 ρ0 N ds s a w):Rel F w0 S0 ρ0 N ds ⟨s.fr,hp⟩ a w:=by
 obtain ⟨S,ρ,R⟩:=R
 obtain ⟨S',i1,i2,i3,i4⟩:=frzH_ok l R.heap h
 have hE:Ext w w S S' ρ ρ:=⟨fun _ _=>rfl,i2,fun _ _ _ h=>h⟩
 exact ⟨S',ρ,i1,R.fr.ext hE,R.size,R.dfr,fun b hb=>(i4 b hb).elim (R.sin b) .inr,R.ext.trans hE⟩
theorem Rel.toS {s:St} {s2:S2} (h:R2 s s2) (R:Rel F w0 S0 ρ0 N ds s a w):Rel F w0 S0 ρ0 N ds (Go.Proofs.YtakolikdebfkeaaDoor.toS s2) a w:=by
 obtain ⟨S,ρ,R⟩:=R
 have e:s.hp=(Go.Proofs.YtakolikdebfkeaaDoor.toS s2).hp:=h.1
 exact ⟨S,ρ,by rw [← e]; exact R.heap,⟨R.fr.1,fun t=>by rw [← h.lk]; exact R.fr.2 t⟩,R.size,R.dfr,R.sin,R.ext⟩
theorem ZW.ok (hΦ:PhiOk P Φ) (hm0:∀ i v L,ρ0 i v=some L→i<m) {c:ACode} {Q:Exit→S2→Prop} {s2:S2} (h:ZW Φ m c Q s2):∀ (code:Code),MtC P N code c→∀ (Q' : Exit→Act→World→Prop),
  (∀ e s s2 a w,R2 s s2→Q e s2→Rel F w0 S0 ρ0 N ds s a w→Q' e a w)→∀ s a w,R2 s s2→Rel F w0 S0 ρ0 N ds s a w→code.wp P Q' a w:=by
 induction h with
 | run Q1 h1 h2 =>
  intro code hm Q' hQ s a w hR R
  exact awp_ok hΦ hm0 _ code hm (fun e s=>∃ s2,R2 s s2∧Q1 e s2) Q' (fun e s a w ⟨s2,k1,k2⟩ R=>hQ e s s2 a w k1 (h1 e s2 k2) R) s a w (awp2_ok _ _ Q1 (fun e s s2 h hq=>⟨s2,h,hq⟩) s _ hR h2) R
 | @seq x y Q s0 K hx hk ihx ihy =>
  intro code hm Q' hQ s a w hR R
  cases code <;> first | exact hm.elim | (rename_i d; cases d <;> exact hm.elim) | skip
  case seq x' y' =>
   refine wp_seq (ihx x' hm.1 _ (fun e s s2 a w h2 hq R=>?_) s a w hR R)
   cases e <;> first | exact ihy s2 hq y' hm.2 Q' hQ s a w h2 R | exact hQ _ _ _ _ _ h2 hq R
 | @cond c x y Q s0 b hb hx hy ihx ihy =>
  intro code hm Q' hQ s a w hR R
  cases code <;> first | exact hm.elim | (rename_i d; cases d <;> exact hm.elim) | skip
  case cond c' x' y' =>
   obtain ⟨rfl,h1,h2⟩:=hm
   have he:s.ev (opd c')=(toS s0).ev (opd c'):=by
    cases opd c' with
    | t n=>exact hR.lk n
    | c x=>rfl
   obtain ⟨S,ρ,R0⟩:=R
   have hv:=ev_ok R0.fr c'
   rw [he,hb] at hv
   refine wp_cond hv.bool ?_
   cases b with
   | true=>exact ihx rfl x' h1 Q' hQ s a w hR ⟨S,ρ,R0⟩
   | false=>exact ihy rfl y' h2 Q' hQ s a w hR ⟨S,ρ,R0⟩
 | @frz c Q s0 l hp hz _ ih =>
  intro code hm Q' hQ s a w hR R
  have hz' : frzH s.hp l=some hp:=by rw [hR.1]; exact hz
  exact ih code hm Q' hQ ⟨s.fr,hp⟩ a w ⟨rfl,hR.2⟩ (R.frz hz')
 | @kp c Q s0 nils slots ids s' hnd htk hk _ ih =>
  intro code hm Q' hQ s a w hR R
  have hid:∀ i v L,ρ0 i v=some L→ids[i]?=some i:=fun i v L hL=>by
   have hi:=hm0 i v L hL
   have h1:(ids.take m)[i]?=some i:=by rw [htk]; simp [hi]
   rw [List.getElem?_take,if_pos hi] at h1; exact h1
  unfold ent at hk
  obtain ⟨s1,hk1,hk2⟩:=Option.bind_eq_some_iff.1 hk
  exact ih code hm Q' hQ s' a w (R2.ofS s') (kpI_ok (nilG_ok _ (R.toS hR) hk1) hnd hid hk2)
theorem ZW.fin {c:ACode} {Q:Exit→S2→Prop} {s:S2} (h:awp2 Φ m c Q s):ZW Φ m c Q s:=.run _ (fun _ _ h=>h) h
end
end Go.Proofs.YtakolikdebfkeaaDoor
namespace Go.Proofs.YtakolikdebfkeaaDoor
open Go.RowKit
inductive ZL (Φ:Phi) (m:Nat):ACode→(Exit→S2→Prop)→S2→Prop
 | zw {c:ACode} {Q:Exit→S2→Prop} {s:S2}:ZW Φ m c Q s→ZL Φ m c Q s
 | seq {x y:ACode} {Q:Exit→S2→Prop} {s:S2} (K:S2→Prop):ZL Φ m x (thenQ2 K Q) s→(∀ s1,K s1→ZL Φ m y Q s1)→ZL Φ m (.seq x y) Q s
 | frz {c:ACode} {Q:Exit→S2→Prop} {s:S2} (l:List Nat) (hp:List AObj):frzH s.hp l=some hp→ZL Φ m c Q ⟨s.fr,hp⟩→ZL Φ m c Q s
 | kp {c:ACode} {Q:Exit→S2→Prop} {s:S2} (nils:List (Nat × TypeId × Nat)) (slots ids:List Nat) (s' : St):nodupB ids=true→ids.take m=List.range m→ent nils slots ids (toS s)=some s' → ZL Φ m c Q (ofS s')→ZL Φ m c Q s
 | block {id:Nat} {c:ACode} {Q:Exit→S2→Prop} {s:S2}:ZL Φ m c (inQ2 id Q) s→ZL Φ m (.block id c) Q s
 | loop {c:ACode} {Q:Exit→S2→Prop} {s:S2} (slots:List Nat) (I:St→Prop) (μ:St→Nat):kpQ m slots (toS s) I →
   (∀ s,I s→ZL Φ m c (thenQ2 (fun s' => kpQ m slots (toS s') fun s2=>I s2∧μ s2<μ s) Q) (ofS s))→ZL Φ m (.loop c) Q s
section
variable {P : Program} {Φ : Phi} {F : Nat → Prop} {w0 w : World} {S0 S : Nat → Prop} {ρ0 ρ : Rho} {N m : Nat} {ds : List Deferred} {a : Act}
theorem kpQ_rel {slots:List Nat} {s:St} {I:St→Prop} (hm0:∀ i v L,ρ0 i v=some L→i<m) (h:kpQ m slots s I) (R:Rel F w0 S0 ρ0 N ds s a w):∃ s',I s' ∧ Rel F w0 S0 ρ0 N ds s' a w:=by
 obtain ⟨nils,ids,s',hnd,htk,hk,hI⟩:=h
 unfold ent at hk
 obtain ⟨s1,hk1,hk2⟩:=Option.bind_eq_some_iff.1 hk
 refine ⟨s',hI,kpI_ok (nilG_ok _ R hk1) hnd (fun i v L hL=>?_) hk2⟩
 have hi:=hm0 i v L hL
 have h1:(ids.take m)[i]?=some i:=by rw [htk]; simp [hi]
 rw [List.getElem?_take,if_pos hi] at h1; exact h1
theorem ZL.ok (hΦ:PhiOk P Φ) (hm0:∀ i v L,ρ0 i v=some L→i<m) {c:ACode} {Q:Exit→S2→Prop} {s2:S2} (h:ZL Φ m c Q s2):∀ (code:Code),MtC P N code c→∀ (Q' : Exit→Act→World→Prop),
  (∀ e s s2 a w,R2 s s2→Q e s2→Rel F w0 S0 ρ0 N ds s a w→Q' e a w)→∀ s a w,R2 s s2→Rel F w0 S0 ρ0 N ds s a w→code.wp P Q' a w:=by
 induction h with
 | zw h=>exact h.ok hΦ hm0
 | @seq x y Q s0 K hx hk ihx ihy =>
  intro code hm Q' hQ s a w hR R
  cases code <;> first | exact hm.elim | (rename_i d; cases d <;> exact hm.elim) | skip
  case seq x' y' =>
   refine wp_seq (ihx x' hm.1 _ (fun e s s2 a w h2 hq R=>?_) s a w hR R)
   cases e <;> first | exact ihy s2 hq y' hm.2 Q' hQ s a w h2 R | exact hQ _ _ _ _ _ h2 hq R
 | @frz c Q s0 l hp hz _ ih =>
  intro code hm Q' hQ s a w hR R
  have hz' : frzH s.hp l=some hp:=by rw [hR.1]; exact hz
  exact ih code hm Q' hQ ⟨s.fr,hp⟩ a w ⟨rfl,hR.2⟩ (R.frz hz')
 | @kp c Q s0 nils slots ids s' hnd htk hk _ ih =>
  intro code hm Q' hQ s a w hR R
  obtain ⟨s3,rfl,R3⟩:=kpQ_rel (I:=fun s2=>s2=s') hm0 ⟨nils,ids,s',hnd,htk,hk,rfl⟩ (R.toS hR)
  exact ih code hm Q' hQ s3 a w (R2.ofS s3) R3
 | @block id c Q s0 _ ih =>
  intro code hm Q' hQ s a w hR R
  cases code <;> first | exact hm.elim | (rename_i d; cases d <;> exact hm.elim) | skip
  case block id' c' =>
   obtain ⟨rfl,hc⟩:=hm
   refine wp_block (ih c' hc _ (fun e s s2 a w h2 hq R=>?_) s a w hR R)
   cases e
   case exit i =>
    simp only [inQ2] at hq
    simp only [Exit.inBlock]
    split
    ·rename_i e; rw [if_pos e] at hq; exact hQ _ _ _ _ _ h2 hq R
    ·rename_i e; rw [if_neg e] at hq; exact hQ _ _ _ _ _ h2 hq R
   all_goals exact hQ _ _ _ _ _ h2 hq R
 | @loop c Q s0 slots I μ h0 _ ih =>
  intro code hm Q' hQ s a w hR R
  cases code <;> first | exact hm.elim | (rename_i d; cases d <;> exact hm.elim) | skip
  case loop c' =>
   obtain ⟨s1,hI,R1⟩:=kpQ_rel hm0 h0 (R.toS hR)
   have key:∀ (k:Nat) (s:St) (a:Act) (w:World),μ s=k→I s→Rel F w0 S0 ρ0 N ds s a w→∀ (b:Frame) (kk:List Item) (cs:List Frame),∃ e a' w',Q' e a' w' ∧ Arrives P (lone (b.at a (.code c' :: .inLoop c' :: kk)) cs w) b kk cs e a' w' := by
    intro k
    induction k using Nat.strongRecOn with
    | _ k ihk =>
     intro s a w hk hI R b kk cs
     have hbody:=ih s hI c' hm (Exit.then (fun a' w' => ∃ s2,(I s2∧μ s2<μ s)∧Rel F w0 S0 ρ0 N ds s2 a' w') Q') (fun e s1 s2 a1 w1 h2 hq R1=>by
      cases e
      case normal=>exact kpQ_rel hm0 hq (R1.toS h2)
      all_goals exact hQ _ _ _ _ _ h2 hq R1) s a w (R2.ofS s) R
     obtain ⟨e,a1,w1,hq,harr⟩:=hbody b (.inLoop c' :: kk) cs
     cases e with
     | normal =>
      obtain ⟨s2,⟨hI2,hlt⟩,R2⟩:=hq
      obtain ⟨e2,a2,w2,hq2,harr2⟩:=ihk (μ s2) (by omega) s2 a1 w1 rfl hI2 R2 b kk cs
      exact ⟨e2,a2,w2,hq2,.of_steps (Steps.trans harr (.one step_inLoop)) harr2⟩
     | exit id=>exact ⟨_,a1,w1,hq,.pass (x:=.inLoop c') rfl (fun _ _=>.inl (by simp)) harr⟩
     | goto l=>exact ⟨_,a1,w1,hq,.pass (x:=.inLoop c') rfl (fun _ _=>.inl (by simp)) harr⟩
     | ret=>exact ⟨_,a1,w1,hq,.pass (x:=.inLoop c') rfl (fun _ _=>.inl (by simp)) harr⟩
     | panic ch=>exact ⟨_,a1,w1,hq,.pass (x:=.inLoop c') rfl (fun _ _=>.inl (by simp)) harr⟩
     | outgrown=>exact ⟨_,a1,w1,hq,.pass (x:=.inLoop c') rfl (fun _ _=>.inl (by simp)) harr⟩
   intro b kk cs
   obtain ⟨e,a',w',hq,harr⟩:=key _ s1 a w rfl hI R1 b kk cs
   exact ⟨e,a',w',hq,.of_steps (.one step_loop) harr⟩
theorem ZL.fin {c:ACode} {Q:Exit→S2→Prop} {s:S2} (h:awp2 Φ m c Q s):ZL Φ m c Q s:=.zw (.fin h)
end
end Go.Proofs.YtakolikdebfkeaaDoor
namespace Go.Proofs.YtakolikdebfkeaaDoor
open Go.RowKit
def acP (ΦP:Phi) (s:St):AOp→Option (AV × List AObj × Prop)
 | .call f as' => stC s (acall0 s.hp s.hp.length (as'.map s.ev) (ΦP f))
 | _=>none
def stepP (Φ ΦP:Phi) (o:AOper) (s:S2) (K:S2→Prop) (T:AV→List AObj→Prop):Prop :=
 match o with
 | ⟨d,op,none⟩=>match acP ΦP (toS s) op with
  | some (x,hp,p)=>p∧T x hp
  | none=>aq2 (astep Φ (toS s) op) s d K
 | ⟨_,_,some _⟩=>False
def runP (Φ ΦP:Phi):List AOper→(S2→Prop)→(AV→List AObj→Prop)→S2→Prop
 | [],K,_,s=>K s
 | o :: r,K,T,s=>stepP Φ ΦP o s (runP Φ ΦP r K T) T
def nextP (Φ ΦP:Phi) (K:Nat→S2→Prop) (T:AV→List AObj→Prop) (s:S2) (dn:Nat):Nat→List Nat→List AOper→Prop
 | i,d :: deps,o :: l=>(if ((dn &&& 2 ^ i) == 0 && (d &&& dn) == d)=true then stepP Φ ΦP o s (K (dn ||| 2 ^ i)) T else True)∧nextP Φ ΦP K T s dn (i+1) deps l
 | _,[],[]=>True
 | _,_,_=>False
def allP (Φ ΦP:Phi) (deps:List Nat) (l:List AOper) (K:S2→Prop) (T:AV→List AObj→Prop):Nat→Nat→S2→Prop
 | 0,_,s=>K s
 | n+1,dn,s=>nextP Φ ΦP (allP Φ ΦP deps l K T n) T s dn 0 deps l
section
variable {P : Program} {Φ ΦP : Phi} {F : Nat → Prop} {w0 w : World} {S0 : Nat → Prop} {ρ0 : Rho} {N m : Nat} {ds : List Deferred} {a : Act}
inductive ZP (Φ ΦP:Phi) (m:Nat):ACode→(Exit→S2→Prop)→(AV→List AObj→Prop)→S2→Prop
 | zl {c:ACode} {Q:Exit→S2→Prop} {T:AV→List AObj→Prop} {s:S2}:ZL Φ m c Q s→ZP Φ ΦP m c Q T s
 | reg {l:List AOper} {Q:Exit→S2→Prop} {T:AV→List AObj→Prop} {s:S2}:runP Φ ΦP l (Q .normal) T s→ZP Φ ΦP m (.reg none l) Q T s
 | any {b:Bool} {hs:Hid1} {l:List AOper} {Q:Exit→S2→Prop} {T:AV→List AObj→Prop} {s:S2}:allP Φ ΦP (hs.map Prod.fst) l (Q .normal) T l.length 0 s→ZP Φ ΦP m (.reg (some ((1000,b) :: hs)) l) Q T s
 | seq {x y:ACode} {Q:Exit→S2→Prop} {T:AV→List AObj→Prop} {s:S2} (K:S2→Prop):ZP Φ ΦP m x (thenQ2 K Q) T s→(∀ s1,K s1→ZP Φ ΦP m y Q T s1)→ZP Φ ΦP m (.seq x y) Q T s
 | cond {c:Opd} {x y:ACode} {Q:Exit→S2→Prop} {T:AV→List AObj→Prop} {s:S2} (b:Bool):(toS s).ev c=.bool b→(b=true→ZP Φ ΦP m x Q T s)→(b=false→ZP Φ ΦP m y Q T s)→ZP Φ ΦP m (.cond c x y) Q T s
 | frz {c:ACode} {Q:Exit→S2→Prop} {T:AV→List AObj→Prop} {s:S2} (l:List Nat) (hp:List AObj):frzH s.hp l=some hp→ZP Φ ΦP m c Q T ⟨s.fr,hp⟩→ZP Φ ΦP m c Q T s
 | kp {c:ACode} {Q:Exit→S2→Prop} {T:AV→List AObj→Prop} {s:S2} (nils:List (Nat × TypeId × Nat)) (slots ids:List Nat) (s' : St):nodupB ids=true→ids.take m=List.range m→ent nils slots ids (toS s)=some s' → ZP Φ ΦP m c Q T (ofS s')→ZP Φ ΦP m c Q T s
 | block {id:Nat} {c:ACode} {Q:Exit→S2→Prop} {T:AV→List AObj→Prop} {s:S2}:ZP Φ ΦP m c (inQ2 id Q) T s→ZP Φ ΦP m (.block id c) Q T s
 | loop {c:ACode} {Q:Exit→S2→Prop} {T:AV→List AObj→Prop} {s:S2} (slots:List Nat) (I:St→Prop) (μ:St→Nat):kpQ m slots (toS s) I →
   (∀ s,I s→ZP Φ ΦP m c (thenQ2 (fun s' => kpQ m slots (toS s') fun s2=>I s2∧μ s2<μ s) Q) T (ofS s))→ZP Φ ΦP m (.loop c) Q T s
end
end Go.Proofs.YtakolikdebfkeaaDoor
namespace Go.Proofs.YtakolikdebfkeaaDoor
open Go.RowKit
abbrev XSpec:=List AV→List AObj→Option (AV × Prop)
abbrev PhX:=FuncId→Option (List Bool × XSpec)
section
variable {P : Program} {Φ : Phi} {ΦX : PhX} {F : Nat → Prop} {w0 w : World} {S S0 : Nat → Prop} {ρ ρ0 : Rho} {N m : Nat} {ds : List Deferred} {a : Act} {T : AV → St → List Nat → Prop} {hp : List AObj}
theorem Kept.cont {G:Nat→Prop} {w1 w2:World} (h1:Kept F w0 w1) (h2:Kept G w1 w2) (h:∀ b,G b→F b∨w0.heap.size≤b):Kept F w0 w2 :=
 ⟨h2.os.trans h1.os,h2.tape.trans h1.tape,h2.output.trans h1.output,Nat.le_trans h1.size h2.size,fun i hi hn=>by
  rw [h2.block i (Nat.lt_of_lt_of_le hi h1.size) (fun hg=>(h i hg).elim hn (fun h=>by omega))]
  exact h1.block i hi hn⟩
end
structure DrawnP (P:Program) (N:Nat) (ops:Array Oper) (hid:Hid1) (l:List AOper):Prop where
 hlen:hid.length=l.length
 len:l.length=ops.size
 mt:∀ (i:Nat) (o:Oper),ops[i]?=some o→MtO P N ops o (l.getD i dflO)
 edge:∀ (i:Nat) (o:Oper),ops[i]?=some o→∀ k∈esO o,k<i
 uniq:∀ i j t,i<ops.size→j<ops.size→(l.getD i dflO).dst=some t→(l.getD j dflO).dst=some t→i=j
 slot:∀ i k t,i<ops.size→k<ops.size→k≠i→t∈(l.getD i dflO).rd→(l.getD k dflO).dst=some t→(k<i∧((ancGo ops.toList []).getD i 0).testBit k=true)∨(i<k∧((ancGo ops.toList []).getD k 0).testBit i=true)
 tot:∀ i k,i<ops.size→k<i→(l.getD i dflO).op.isH=true→(l.getD k dflO).op.isH=true→((ancGo ops.toList []).getD i 0).testBit k=true∨(fxL ops l i=true∧fxL ops l k=true)
 first:∀ i k,i<ops.size→k<ops.size→(l.getD i dflO).op.isH=true→fxL ops l i=false→fxL ops l k=true→k<i∧((ancGo ops.toList []).getD i 0).testBit k=true
 bar:∀ i,i<ops.size→(hid.getD i (0,false)).2=true→(∀ k,k<i→hfL l k=false→((ancGo ops.toList []).getD i 0).testBit k=true)∧(∀ k,i<k→k<ops.size→hfL l k=false→((ancGo ops.toList []).getD k 0).testBit i=true)
 pos:∀ i,i<ops.size→(l.getD i dflO).op.isH=false→(hid.getD i (0,false)).1≤i
 posR:∀ i k,i<ops.size→k<ops.size→(l.getD i dflO).op.isH=false→hfL l i=false→(l.getD k dflO).op.isH=true→k<(hid.getD k (0,false)).1→(hid.getD i (0,false)).1≤k→(hid.getD i (0,false)).1=0∨(i<k∧((ancGo ops.toList []).getD k 0).testBit i=true)
 posA:∀ i k,i<ops.size→(l.getD i dflO).op.isH=false→k<(hid.getD i (0,false)).1→(l.getD k dflO).op.isH=true→((ancGo ops.toList []).getD i 0).testBit k=true
 posB:∀ i k,i<ops.size→(l.getD i dflO).op.isH=false→hfL l i=false→k<i→(hid.getD i (0,false)).1≤k→(l.getD k dflO).op.isH=true→(hid.getD k (0,false)).2=false
section
variable {P : Program} {N : Nat}
end
section
variable {P : Program} {Φ : Phi} {ΦX : PhX} {F : Nat → Prop} {w0 w : World} {S S0 : Nat → Prop} {ρ ρ0 : Rho} {N m : Nat} {ds : List Deferred} {a : Act} {T : AV → St → List Nat → Prop} {s0 : St}
end
section
variable {P : Program} {Φ : Phi} {ΦX : PhX} {F : Nat → Prop} {w0 w : World} {S S0 : Nat → Prop} {ρ ρ0 : Rho} {N m : Nat} {ds : List Deferred} {a : Act} {T : AV → St → List Nat → Prop} {hp : List AObj}
end
section
variable {Φ : Phi} {ΦX : PhX} {T : AV → St → List Nat → Prop} {m id : Nat} {Q : Exit → S2 → Prop} {K : S2 → Prop} {s : S2} {x y c : ACode} {l r : List AOper} {hs : Hid1} {d : Option Nat} {op : AOp} {cc : Opd} {g : Nat × Bool} {z : AV} {ids : List Nat} {st : St}
end
attribute [go_sem] AOper.rd AOp.rd Opd.rd AOper.isNew List.any_cons List.any_nil Option.isNone_none Option.toList_some Option.toList_none
end Go.Proofs.YtakolikdebfkeaaDoor
