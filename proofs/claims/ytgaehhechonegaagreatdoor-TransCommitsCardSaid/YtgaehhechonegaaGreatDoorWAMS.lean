import Derived.Test.YtgaehhechonegaaGreatDoorWAM3
import Derived.Test.YtgaehhechonegaaGreatDoorRows
import Derived.Handed
import Derived.LaidMore
import Derived.LaidLaws
import Derived.LaidHandle
import Derived.MakeChecks
import Derived.SizedLaws
import Derived.Shelf.Vars
import Derived.OpenShut
import Derived.ChangeArms
import Derived.Stop.Joined
import Derived.Test.YtgaehhechonegaaGreatDoorChecked
open Nat (reduceDiv reduceMod reduceSub reduceAdd reduceLeDiff reduceEqDiff)
set_option linter.all false
namespace Go.Proofs.YtgaehhechonegaaGreatDoor
open Go.RowKit
attribute [go_sem] b_skip b_reg b_draw b_seq b_cond b_block b_loop b_exit b_ret b_nil b_op b_gt b_gf b_dnil b_dop b_dgt b_dgf b_aq isB_t isB_u isB_f isB_g isB_p isU_t isU_b ifB_t ifB_f b_tn b_tx b_tr b_in b_ir b_ix b_rr b_pt b_pn b_pi b_pv b_of b_mk0 b_mk1 b_lk b_put nR0 nRs sR0 sRs sRn sRm topR hp_toS lk_toS exD AOp.isH keepN preB avalP pureR astep stV stN stE stC aval anew aElems frzS frzH aeff slots aret ares aress AV.isTup n_0 w_0 n_1 w_1 n_2 w_2 n_3 w_3 n_4 w_4 n_5 w_5 n_6 w_6 n_7 w_7 n_8 w_8 n_9 w_9 n_10 w_10 n_11 w_11 n_12 w_12 n_13 w_13 n_14 w_14 n_15 w_15 eqFs aEqS ofC_i ofC_b ofC_s ofC_U getD_mapU getD_Bs Bs_len Int.toNat_natCast opd pt tk subp rdP Rt.size Rt.isAgg aBin aInt aStr arI aUn aToInt aToStr aIdxS zv aIdxA aIa aIaA aFa aLd aFld pparts aLo aHi cutL aSlS aSl aExt aNck aNilc AV.isStr aLen AV.one AV.multi pureB szOk psz drp spl aEqB aEqA aMm aMkfn aMkif aBuild toV aBuildA wrP unparts view nilS St.ev lk St.put St.pin St.pinV acall0_if acall1 acall2 acall3_none acall3_if acall3b emp3 pv pvr pvs isP_nil isP_cons bor bor0 bor1 phiL_nil phiL_at tau lentO okIds flatC flatB flatOs flatO flatPs place setAll_nil setAll_cons nodupB renObj closeIds addNew idsOf idsObj posOf lenOk_1 lenOk_2 lenOk_3 lenOk_4 Option.isSome_none Option.isSome_some Bool.or_true Bool.true_or beq_self_eq_true List.map List.set List.map_cons List.map_nil List.flatMap_cons List.flatMap_nil List.flatten_cons List.flatten_nil true_and and_true List.length_cons List.length_nil List.nil_append List.cons_append List.append_nil Option.map mapO ren kp kpI ent nilG Option.bind List.range List.range.loop List.getElem?_cons_zero List.getElem?_cons_succ List.getElem?_nil List.getD_cons_zero List.getD_cons_succ List.drop_zero List.drop_succ_cons List.drop_nil List.take_zero List.take_succ_cons List.all_cons List.all_nil List.isEmpty_nil List.isEmpty_cons Bool.and_true Bool.true_and Bool.not_true Bool.not_false List.contains_nil List.contains_cons Bool.or_false Bool.false_or eq_self forall_const false_implies Bool.false_eq_true Nat.le_refl List.length_map List.length_set List.length_replicate and_self implies_true Bool.and_self Bool.false_and Bool.and_false finP finI Int.cast_ofNat_Int decide_true decide_false

abbrev oS (n : Nat) (x : AOp) : AOper := ⟨some n, x, none⟩
abbrev oN (x : AOp) : AOper := ⟨none, x, none⟩
abbrev oG (n : Nat) (x : AOp) (t : Nat) : AOper := ⟨some n, x, some (t, true)⟩
abbrev oH (n : Nat) (x : AOp) (t : Nat) : AOper := ⟨some n, x, some (t, false)⟩
attribute [go_sem] oS oN oG oH
end Go.Proofs.YtgaehhechonegaaGreatDoor
namespace Go.Proofs.YtgaehhechonegaaGreatDoor
open Go.RowKit
theorem returns_shaped {H:Type} {enc:TypeId × Value→H} {f:FuncId} {fn:Func} {a:Assume} {C:Checked} {os:Os} {s:ChangeSpec} {conds:List PathCond} {apart fresh handsOn again:Bool} {X:World→Array Value→Prop}
  (hX:∀ (w w' : World) (args:Array Value),w.heap=w'.heap→X w args→X w' args)
  (own:ownKnob C.prog.godebug=none) (started:os.Started) (noInit:C.prog.inits.idxOf? f=none) (hfn:C.prog.funcs[f]?=some fn)
  (witness:∃ (w:World) (tape:Tape) (i:Input),w.os=os∧(w.forCall tape i).Shaped C.prog∧i.vars=[]∧Input.okWide C.prog (w.forCall tape i) .any w.heap.size f i ∧
   ((s.pre enc C.prog fn conds apart (w.forCall tape i).memory i.args∧X (w.forCall tape i).memory i.args)∧sizedMet enc C.prog fn (OpenSpec.ofChange s) apart (w.forCall tape i).memory i.args)∧a.holds C.prog (lone (Frame.enter C.prog f i.args .normal) [] (w.forCall tape i)))
  (contract:∀ (W:World) (base:Nat) (args:Array Value) (ds gs:List (DataW H)) (before:List MemPlace),
   (∀ (j:Nat) t v,fn.params[j]?=some t→args[j]?=some v→Value.okWide C.prog W .any base t v) →
   DataW.Whole enc C.prog fn.params.toList s.vars apart W args.toList ds gs before →
   X W args→W.ShapedOpen C.prog →
   Calls C.prog f args W fun e W' => ∃ v,e=.returned v∧s.post enc C.prog fn apart fresh handsOn again W args v W') :
  ReturnsInHanded a C os f .any (fun w args=>(s.pre enc C.prog fn conds apart w args∧X w args)∧sizedMet enc C.prog fn (OpenSpec.ofChange s) apart w args) (s.post enc C.prog fn apart fresh handsOn again):=by
 refine returnsInHanded_of_calls own started noInit witness ?_
 intro w tape i _ hsh _ hok hpre _
 obtain ⟨_,_,_,fn',hfn',_,_,_,_,hval⟩:=hok
 obtain rfl:fn' = fn:=Option.some.inj (hfn'.symm.trans hfn)
 obtain ⟨⟨⟨ds,gs,before,hw,_⟩,hx⟩,_⟩:=hpre
 refine (contract (w.forCall tape i) w.heap.size i.args ds gs before hval (DataW.Whole.of_heap (w' := w.forCall tape i) (by rfl) hw) (hX _ _ _ (by rfl) hx) hsh).mono fun e W' ⟨v,he,hp⟩=>?_
 subst he
 exact ChangeSpec.post_blind hp
end Go.Proofs.YtgaehhechonegaaGreatDoor
namespace Go.Proofs.YtgaehhechonegaaGreatDoor
open Go.RowKit
def GeOk (w:World) (S:Nat→Prop):Nat × GE→Prop
 | (g,.cells cs)=>S g∧(∀ u∈cs,u.oneCell' = true)∧∃ t fr,w.heap[g]?=some (.cells cs.toArray t fr)
 | (g,.err t l)=>S g∧∃ b o ty fr,w.heap[g]?=some (.cells #[.iface t (.pointer (some ⟨b,o,none⟩))] ty fr)∧S b∧w.cell? ⟨b,o,none⟩=some (.string ⟨l.toArray⟩)
theorem glob1_ok {w:World} {S:Nat→Prop} {g sz:Nat} {x:AV}:∀ l:List (Nat × GE),(∀ e∈l,GeOk w S e)→glob1 g l=some (sz,x)→S g∧∃ us t fr,Cs w S rho0 x us∧us.length=sz∧w.heap[g]?=some (.cells us.toArray t fr):=by
 intro l
 induction l with
 | nil=>intro _ h; cases h
 | cons e l ih =>
  intro h hg
  obtain ⟨k,e⟩:=e
  have h0:=h _ (List.mem_cons_self ..)
  have h1:=ih (fun e he=>h e (List.mem_cons_of_mem _ he))
  cases e with
  | cells cs =>
   simp only [glob1] at hg
   split at hg
   ·rename_i e
    subst e
    simp only [Option.some.injEq,Prod.mk.injEq] at hg
    obtain ⟨rfl,rfl⟩:=hg
    obtain ⟨a1,a2,t,fr,a3⟩:=h0
    exact ⟨a1,cs,t,fr,.blob cs a2,rfl,a3⟩
   ·exact h1 hg
  | err t l =>
   simp only [glob1] at hg
   split at hg
   ·rename_i e
    subst e
    simp only [Option.some.injEq,Prod.mk.injEq] at hg
    obtain ⟨rfl,rfl⟩:=hg
    obtain ⟨a1,b,o,ty,fr,a2,a3,a4⟩:=h0
    refine ⟨a1,[.iface t (.pointer (some ⟨b,o,none⟩))],ty,fr,?_,rfl,a2⟩
    have hp:Cs w S rho0 (.ptr 1 (.str l) 0 0) [.pointer (some ⟨b,o+(0+0),none⟩)]:=.ptr 1 (.str l) 0 0 [.string ⟨l.toArray⟩] b o a3 (.str l) rfl (fun j hj=>by
     have:j=0:=by simpa using hj
     subst this
     simpa using a4)
    exact .iface t _ _ hp
   ·exact h1 hg
theorem globOk_of {w:World} {S:Nat→Prop} (h:∀ e∈globs,GeOk w S e) (hi:∀ g,globInts.contains g=true→S g∧∃ m,w.cell? ⟨g,0,none⟩=some (.int .i64 m)):GlobOk w S:=⟨fun _ _ _ hg=>glob1_ok globs h hg,hi⟩
theorem laidVars_at {P:Program} {w:World}:∀ (l:List (String × DataW Unit)) {ps:List MemPlace},DataW.LaidVars P w l ps→∀ (i:Nat) (n:String) (d:DataW Unit),l[i]?=some (n,d) →
  ∃ g t cs fuel p,P.globalNamed n=some g∧(P.globals[g]?).map (·.type)=some t∧w.var? P n=some cs∧DataW.trod (fun _=>()) P w 0 (fun _=>true) false fuel t cs.toList=some (d,p)∧(∀ x∈MemPlace.row ⟨g,0,none⟩ cs.size,x∈ps)∧(∀ x∈p,x∈ps):=by
 intro l
 induction l with
 | nil=>intro ps _ i n d h; simp at h
 | cons e l ih =>
  intro ps h i n d hi
  obtain ⟨n0,d0⟩:=e
  obtain ⟨g,t,cs,fuel,p,q,h1,h2,h3,h4,h5,rfl⟩:=h
  cases i with
  | zero =>
   simp only [List.getElem?_cons_zero,Option.some.injEq,Prod.mk.injEq] at hi
   obtain ⟨rfl,rfl⟩:=hi
   exact ⟨g,t,cs,fuel,p,h1,h2,h3,h4,fun x hx=>by simp [hx],fun x hx=>by simp [hx]⟩
  | succ i =>
   obtain ⟨g',t',cs',fuel',p',k1,k2,k3,k4,k5,k6⟩:=ih h5 i n d (by simpa using hi)
   exact ⟨g',t',cs',fuel',p',k1,k2,k3,k4,fun x hx=>by simp [k5 x hx],fun x hx=>by simp [k6 x hx]⟩
theorem var_heap {P:Program} {w:World} {n:String} {g:Nat} {cs:Array Value} (hg:P.globalNamed n=some g) (h:w.var? P n=some cs):∃ t fr,w.heap[g]?=some (.cells cs t fr):=by
 simp only [World.var?,hg,Option.bind_some] at h
 split at h
 ·rename_i cs' t fr e
  injection h with h
  subst h
  exact ⟨t,fr,e⟩
 ·cases h
theorem lt_of_heap {w:World} {b:Nat} {x:Obj} (h:w.heap[b]?=some x):b<w.heap.size:=(Array.getElem?_eq_some_iff.1 h).1
theorem ge_cells {P:Program} {w:World} {l:List (String × DataW Unit)} {n:String} {k:IntKind} {zs:List Int} {g:Nat} {t e:TypeId} (h:laidMet P l w) (i:Nat)
  (hm:l[i]?=some (n,.agg (zs.map fun z=>.lit (.int k z)))) (hg:P.globalNamed n=some g) (ht:(P.globals[g]?).map (·.type)=some t) (ha:P.underlying t=some (.array zs.length e)) (hct:P.cellsOf t=zs.length)
  (he:P.underlying e=some (.int k)) (hc:P.cellsOf e=1):GeOk w (fun b=>b<w.heap.size) (g,.cells (zs.map fun z=>.int k z)):=by
 obtain ⟨ps,hv,_,_⟩:=h
 obtain ⟨g',t',cs,fuel,p,h1,h2,h3,h4,_,_⟩:=laidVars_at l hv i n _ hm
 obtain rfl:=Option.some.inj (hg.symm.trans h1)
 obtain rfl:=Option.some.inj (ht.symm.trans h2)
 obtain ⟨ty,fr,hh⟩:=var_heap hg h3
 obtain ⟨xs,m,_,hx,hl,hn,hel⟩:=DataW.trod_array ha h4
 simp only [Prod.mk.injEq,DataW.agg.injEq] at hx
 have hcs:cs.toList=zs.map fun z=>Value.int k z:=by
  refine List.ext_getElem? fun j=>?_
  rcases Nat.lt_or_ge j zs.length with hj | hj
  ·have h5:=hel j hj
   rw [hc] at h5
   obtain ⟨x,hxj⟩:∃ x,xs[j]?=some x:=⟨xs[j]'(by omega),List.getElem?_eq_getElem (by omega)⟩
   rw [hxj] at h5
   obtain ⟨z,e1,e2,_⟩:=DataW.trod_int he h5
   have e3:=congrArg (fun l=>l[j]?) hx.1
   simp only [List.getElem?_map,hxj,Option.map_some,List.getElem?_eq_getElem hj] at e3
   rw [e2] at e3
   simp only [Option.some.injEq,DataW.lit.injEq,Lit.int.injEq,true_and] at e3
   have e4:=congrArg (fun l=>l[0]?) e1
   simp only [List.getElem?_take,List.getElem?_drop,List.getElem?_cons_zero,Nat.lt_one_iff] at e4
   simp only [Nat.mul_one,Nat.add_zero,if_true] at e4
   rw [e4,List.getElem?_map,List.getElem?_eq_getElem hj,e3]
   rfl
  ·rw [List.getElem?_eq_none (by omega),List.getElem?_eq_none (by simpa using hj)]
 refine ⟨lt_of_heap hh,fun u hu=>?_,ty,fr,by rw [hh,← hcs]⟩
 obtain ⟨z,_,rfl⟩:=List.mem_map.1 hu
 rfl
theorem ge_err_of {P:Program} {w:World} {l:List (String × DataW Unit)} {n nm:String} {text:List UInt8} {g:Nat} {ti tp te ts:TypeId} {ms:Array (String × TypeId)} {f:Field} (h:laidMet P l w) (i:Nat)
  (hm:l[i]?=some (n,.iface nm (.ptr (.agg [.lit (.string text)])))) (hg:P.globalNamed n=some g) (ht:(P.globals[g]?).map (·.type)=some ti)
  (hi:P.underlying ti=some (.interface ms)) (hrow:∀ u,P.typeName? 3 u=some nm→u=tp)
  (hp:P.underlying tp=some (.pointer te)) (he:P.underlying te=some (.struct #[f])) (hft:f.type=ts) (hfo:f.offset=0) (hs:P.underlying ts=some .string) (hc:P.cellsOf te=1) (hcs:P.cellsOf ts=1) :
  GeOk w (fun b=>b<w.heap.size) (g,.err tp text):=by
 obtain ⟨ps,hv,_,hrows⟩:=h
 obtain ⟨g',t',cs,fuel,p,h1,h2,h3,h4,h5,h6⟩:=laidVars_at l hv i n _ hm
 obtain rfl:=Option.some.inj (hg.symm.trans h1)
 obtain rfl:=Option.some.inj (ht.symm.trans h2)
 obtain ⟨ty,fr,hh⟩:=var_heap hg h3
 obtain ⟨l0⟩:=cs
 have ok0:∀ u v,l0=[.iface u v]→Value.okWide P w .any 0 u v:=fun u v e=>by
  subst e
  exact (hrows g 0 (h5 _ (by simp [MemPlace.row]))).2 u v (by simpa using World.var?_cell hg h3 0)
 obtain ⟨a,s,rfl,hc0,hs0,_,rfl⟩:=errorString_of_trod hi hrow hp he hft hfo hs hc hcs h4 ok0
 obtain ⟨b,o,sp⟩:=a
 obtain ⟨⟨c,t0,hb0⟩,_⟩:=hrows b o (h6 _ (by simp [MemPlace.row]))
 have hsp:sp=none:=by
  simp only [World.cell?,hb0] at hc0
  cases sp with
  | none=>rfl
  | some _=>simp at hc0
 subst hsp
 refine ⟨lt_of_heap hh,b,o,ty,fr,hh,lt_of_heap hb0,?_⟩
 rw [hc0]
 obtain ⟨⟨s⟩⟩:=s
 simp only at hs0
 subst hs0
 rfl
theorem star_err : "*" ++ "errors.errorString" = "*errors.errorString" := by decide
theorem row_err (u : TypeId) (h : Tryz.prog.typeName? 3 u = some "*errors.errorString") : u = 214 :=
 typeName_ptr_named (nm := "errors.errorString") (by rw [star_err]; kernel_rfl) (by kernel_rfl) (by decide) u (by rw [star_err]; exact h)
theorem ge_err {w : World} {l : List (String × DataW Unit)} {n : String} {text : List UInt8} {g : Nat} (h : laidMet Tryz.prog l w) (i : Nat)
  (hm : l[i]? = some (n, .iface "*errors.errorString" (.ptr (.agg [.lit (.string text)])))) (hg : Tryz.prog.globalNamed n = some g) (ht : (Tryz.prog.globals[g]?).map (·.type) = some 99) : GeOk w (fun b => b < w.heap.size) (g, .err 214 text) :=
 ge_err_of h i hm hg ht Tryz.underlying99 row_err Tryz.underlying214 Tryz.underlying216 rfl rfl Tryz.underlying9 (by kernel_rfl) (by kernel_rfl)
theorem glob_of_laid {W : World} (h0 : laidMetH Tryz.prog Rows.transChangesRow.laid W) (hsh : W.ShapedOpen Tryz.prog) : GlobOk W (fun b => b < W.heap.size) := by
 rw [MakeChecks.laidMetH_plain _ _ _ (by kernel_rfl)] at h0
 have h : laidMet Tryz.prog Rows.transChangesRow.laid W := h0
 refine globOk_of (fun e he => ?_) (fun g hx => by
  obtain rfl : g = 0 := by simpa [globInts] using hx
  obtain ⟨m, hm⟩ := cell_of_shapedOpen_int (zero := #[.int .i64 0]) (t := 3) (g := 0) hsh (of_decide_eq_true (by kernel_rfl)) (by kernel_rfl) rfl (by kernel_rfl) (by kernel_rfl) Tryz.underlying3
  exact ⟨World.block_lt_of_cell? _ _ hm, m, hm⟩)
 simp only [globs, List.mem_cons, List.not_mem_nil, or_false] at he
 rcases he with rfl | rfl | rfl
 ·exact ge_cells (n := "internal/strconv.uint64pow10") (k := .u64) (t := 204) (e := 60) (zs := [1, 10, 100, 1000, 10000, 100000, 1000000, 10000000, 100000000, 1000000000, 10000000000, 100000000000, 1000000000000, 10000000000000, 100000000000000, 1000000000000000, 10000000000000000, 100000000000000000, 1000000000000000000, 10000000000000000000]) h 2 rfl (by kernel_rfl) (by kernel_rfl) (by kernel_rfl) (by kernel_rfl) (by kernel_rfl) (by kernel_rfl)
 ·exact ge_err (n := "strconv.ErrRange") (text := [118, 97, 108, 117, 101, 32, 111, 117, 116, 32, 111, 102, 32, 114, 97, 110, 103, 101]) h 4 rfl (by kernel_rfl) (by kernel_rfl)
 ·exact ge_err (n := "strconv.ErrSyntax") (text := [105, 110, 118, 97, 108, 105, 100, 32, 115, 121, 110, 116, 97, 120]) h 5 rfl (by kernel_rfl) (by kernel_rfl)
end Go.Proofs.YtgaehhechonegaaGreatDoor
namespace Go.Proofs.YtgaehhechonegaaGreatDoor
open Go.RowKit
section
variable {P : Program} {f : FuncId} {sp sp1 sp2 : Spec}
theorem FnOk.or (h1:FnOk P f sp1) (h2:FnOk P f sp2) (h:∀ avs hp r,sp avs hp=some r→r.pre→(∃ r',sp1 avs hp=some r' ∧ r'.pre∧r'.v=r.v∧r'.hp=r.hp)∨(∃ r',sp2 avs hp=some r' ∧ r'.pre∧r'.v=r.v∧r'.hp=r.hp)):FnOk P f sp:=by
 intro avs hp r hs hp' w S ρ args H ha
 rcases h avs hp r hs hp' with ⟨r',k1,k2,k3,k4⟩ | ⟨r',k1,k2,k3,k4⟩
 ·rw [← k3,← k4]; exact h1 avs hp r' k1 k2 w S ρ args H ha
 ·rw [← k3,← k4]; exact h2 avs hp r' k1 k2 w S ρ args H ha
theorem FnOk.imp (h1:FnOk P f sp1) (h:∀ avs hp r,sp avs hp=some r→r.pre→∃ r',sp1 avs hp=some r' ∧ r'.pre∧r'.v=r.v∧r'.hp=r.hp):FnOk P f sp :=
 FnOk.or h1 h1 fun avs hp r hs hp' => .inl (h avs hp r hs hp')
theorem fnok_row (h:∀ avs hp r,sp avs hp=some r→r.pre→hp=[]∧∃ e sz xs,r.v=.own 0 0∧r.hp=[.row e sz 0 xs]∧∀ (w:World) (S:Nat→Prop) (ρ:Rho) (args:List Value),(∀ b,S b→b<w.heap.size)→ArgsOk w S ρ avs args →
  Calls P f args.toArray w fun e' w' => ∃ g n c us cur fr,e' = .returned (.slice (some ⟨g,0,none⟩) n c)∧Below w.heap.size w w' ∧ w.heap.size≤g∧w'.heap[g]?=some (.cells cur e fr)∧Mk fr cur.size∧n≤c∧c≤9223372036854775807∧cur.size=c * sz∧cur.toList.take (n * sz)=us ∧
   us.length=n * sz∧n=xs.length∧Css w' (fun _=>False) rho0 (prs sz xs) us):FnOk P f sp:=by
 intro avs hp r hs hp' w S ρ args H ha
 obtain ⟨rfl,e,sz,xs,k1,k2,hc⟩:=h avs hp r hs hp'
 refine (hc w S ρ args H.slt ha).mono ?_
 rintro e' w' ⟨g,n,c,us,cur,fr,rfl,hb,hg,m1,m2,m3,m4,m5,m6,m7,m8,m9⟩
 have hn:∀ u,ρ 0 u=none:=fun u=>H.new 0 (Nat.zero_le _) u
 obtain ⟨H',hE⟩:=H.push (w' := w') (S' := S) (ρ' := rset ρ 0 0 ⟨some ⟨g,0,none⟩,c,n,sz⟩) (o' := .row e sz 0 xs) hb (fun _ h=>h) (fun _ h=>.inl h)
  (fun i v L hL=>by
   unfold rset
   by_cases hi:i=0∧v=0
   ·obtain ⟨rfl,rfl⟩:=hi; rw [hn] at hL; cases hL
   ·rw [if_neg hi]; exact hL)
  (fun i v hi=>by unfold rset; rw [if_neg (by intro hh; exact hi hh.1)])
  ⟨⟨some ⟨g,0,none⟩,c,n,sz⟩,us,by simp [rset],m8,rfl,⟨m7,.inr ⟨g,cur,fr,rfl,m1,m2,m3,m4,m5,m6⟩⟩,m9.ext ⟨fun b hb=>hb.elim,fun b hb=>hb.elim,fun _ _ _ h=>h⟩,fun b hb hS=>by
   have:g=b:=by simpa [ablk] using hb
   subst this
   have:=H.slt _ hS; omega⟩
  (fun v hv=>by
   have hv0:0<v:=hv
   show rset ρ 0 0 _ 0 v=none
   unfold rset; rw [if_neg (by intro hh; omega)]; exact hn v)
  (fun b hb=>by
   have hb' : ((rset ρ 0 0 ⟨some ⟨g,0,none⟩,c,n,sz⟩ 0 0).bind fun L=>ablk L.A)=some b:=hb
   have:g=b:=by simpa [rset,ablk] using hb'
   omega)
 refine ⟨_,S,_,rfl,?_,by rw [k2]; exact H',hE,fun b h=>.inl h⟩
 rw [k1]
 exact .inr ⟨_,.own 0 0 ⟨some ⟨g,0,none⟩,c,n,sz⟩ (by simp [rset]),rfl⟩
end
section
variable {P : Program} {f : FuncId} {sp : Spec}
end
theorem loop2P {Φ:Phi} {m:Nat} {c:ACode} {Q:Exit→S2→Prop} {s:S2} {α:Type} (nils:List (Nat × TypeId × Nat)) (sl ids:List Nat) (st:α→St) (Inv:α→Prop) (μ:α→Nat) (a0:α) (hk:ent nils sl ids (toS s)=some (st a0)) (h0:Inv a0) (hm:nodupB ids=true∧ids.take m=List.range m)
  (h:∀ a,Inv a→∀ R:S2→Prop,(∀ s' a',Inv a' → μ a' < μ a→kp sl ids.length (toS s')=some (st a')→R s')→awp2 Φ m c (thenQ2 R Q) (ofS (st a))):loopQ2 m (awp2 Φ m c) Q s :=
 loop2 nils sl ids st Inv μ a0 hk h0 hm fun a ha=>h a ha _ fun _ a' h1 h2 h3=>⟨a',h1,h2,h3⟩
end Go.Proofs.YtgaehhechonegaaGreatDoor
namespace Go.Proofs.YtgaehhechonegaaGreatDoor
open Go.RowKit
abbrev ExL:=List UInt8 × List UInt8
def exV (x:ExL):AV:=.agg [(1,.str x.1),(1,.str x.2)]
def unEx:AV→ExL
 | .agg [(_,.str k),(_,.str v)]=>(k,v)
 | _=>([],[])
theorem unEx_map (es:List ExL):(es.map exV).map unEx=es:=by
 rw [List.map_map]
 have:unEx∘exV=id:=by funext x; rfl
 rw [this,List.map_id]
theorem getD_map {α:Type} (f:α→AV) (l:List α) (d:α) (z:AV) {i:Nat} (h:i<l.length):(l.map f).getD i z=f (l.getD i d):=by
 simp [List.getD_eq_getElem?_getD,List.getElem?_map,List.getElem?_eq_getElem h]
def idAV (p:List UInt8):AV:=.blob (p.map U)
def unId:AV→List UInt8
 | .blob cs=>unV cs
 | _=>[]
theorem unId_map (ps:List (List UInt8)):(ps.map idAV).map unId=ps:=by
 rw [List.map_map]
 have:unId∘idAV=id:=by funext x; exact unV_U x
 rw [this,List.map_id]
theorem flatMap_take {α:Type} (f:α→List UInt8) (l:List α) {i:Nat} (h:i<l.length):(l.take i).flatMap f ++ f l[i]=(l.take (i+1)).flatMap f:=by
 rw [List.take_add_one,List.getElem?_eq_getElem h,Option.toList_some,List.flatMap_append,List.flatMap_cons,List.flatMap_nil,List.append_nil]
theorem flatMap_take_le {α:Type} (f:α→List UInt8) (l:List α) (i:Nat):((l.take i).flatMap f).length≤(l.flatMap f).length:=by
 have:l.flatMap f=(l.take i).flatMap f ++ (l.drop i).flatMap f:=by rw [← List.flatMap_append,List.take_append_drop]
 rw [this,List.length_append]; omega
end Go.Proofs.YtgaehhechonegaaGreatDoor
namespace Go.Proofs.YtgaehhechonegaaGreatDoor
open Go.RowKit
def b_cprn_0:ACode:=(.seq (.reg none [oS 46 (.bin .lss (.t 45) (.t 44))]) (.seq (.cond (.t 46) .skip (.exit 0)) (.seq (.block 1 (.seq (.reg none [oS 47 (.ia 20 (.blob (List.replicate 20 (.int .u8 0))) (.t 43) (.t 45)),oS 48 (.ld (.arr 20) (.t 47)),oS 10 (.new 29 [(20,(.blob (List.replicate 20 (.int .u8 0))))]),oN (.st (.arr 20) (.t 10) (.t 48))]) (.reg none [oS 49 (.ld (.arr 20) (.t 10)),oS 50 (.call 51 [(.t 49)]),oS 51 (.bin .add (.c (.str [112,97,114,101,110,116,32])) (.t 50)),oS 52 (.bin .add (.t 51) (.c (.str [10]))),oS 53 (.call 50 [(.t 8),(.t 52)])]))) (.reg none [oS 54 (.bin .add (.t 45) (.c (.int .i64 1))),oS 45 (.mv (.t 54))]))))
def b_cprn_1:ACode:=(.seq (.reg none [oS 66 (.bin .lss (.t 65) (.t 64))]) (.seq (.cond (.t 66) .skip (.exit 2)) (.seq (.block 3 (.seq (.reg none [oS 67 (.ia 2 (.agg [(1,(.str [])),(1,(.str []))]) (.t 63) (.t 65)),oS 68 (.ld (.st 2) (.t 67)),oS 12 (.new 69 [(1,(.str [])),(1,(.str []))]),oN (.st (.st 2) (.t 12) (.t 68))]) (.reg (some [(0,false),(1,false),(2,false),(3,false),(4,false),(5,false),(6,true),(7,true),(8,true)]) [oS 69 (.fa 0 (.t 12)),oS 70 (.ld (.one (.str [])) (.t 69)),oS 71 (.bin .add (.t 70) (.c (.str [32]))),oS 72 (.fa 1 (.t 12)),oS 73 (.ld (.one (.str [])) (.t 72)),oS 74 (.call 52 [(.t 73),(.c (.str [10])),(.c (.str [10,32]))]),oS 75 (.bin .add (.t 71) (.t 74)),oS 76 (.bin .add (.t 75) (.c (.str [10]))),oS 77 (.call 50 [(.t 8),(.t 76)])]))) (.reg none [oS 78 (.bin .add (.t 65) (.c (.int .i64 1))),oS 65 (.mv (.t 78))]))))
def t_cprn_0:ACode:=(.seq (.reg none [oS 79 (.fa 30 (.t 1)),oS 80 (.ld (.one (.str [])) (.t 79)),oS 81 (.bin .add (.c (.str [10])) (.t 80)),oS 82 (.call 50 [(.t 8),(.t 81)])]) (.seq (.reg none [oS 83 (.call 53 [(.t 8)]),oS 84 (.bytes 5 (.t 83)),oS 2 (.mv (.t 84)),oS 3 (.mv (.c (.int .i64 0)))]) .ret))
def t_cprn_1:ACode:=(.seq (.reg none [oS 55 (.mv (.t 4)),oS 56 (.bin .add (.c (.str [97,117,116,104,111,114,32])) (.t 55)),oS 57 (.bin .add (.t 56) (.c (.str [10,99,111,109,109,105,116,116,101,114,32]))),oS 58 (.mv (.t 6)),oS 59 (.bin .add (.t 57) (.t 58)),oS 60 (.bin .add (.t 59) (.c (.str [10]))),oS 61 (.call 50 [(.t 8),(.t 60)])]) (.seq (.seq (.reg none [oS 62 (.fa 29 (.t 1)),oS 63 (.ld (.one (.con (.slice none 0 0))) (.t 62)),oS 64 (.len none false (.t 63)),oS 65 (.mv (.c (.int .i64 0)))]) (.block 2 (.loop b_cprn_1))) t_cprn_0))
def k_cprn_4:ACode:=(.seq (.reg none [oS 8 (.new 97 [(1,(.con (.pointer none))),(1,(.con (.slice none 0 0)))])]) (.seq (.reg none [oS 36 (.fa 0 (.t 1)),oS 37 (.ld (.arr 20) (.t 36)),oS 38 (.call 51 [(.t 37)]),oS 39 (.bin .add (.c (.str [116,114,101,101,32])) (.t 38)),oS 40 (.bin .add (.t 39) (.c (.str [10]))),oS 41 (.call 50 [(.t 8),(.t 40)])]) (.seq (.seq (.reg none [oS 42 (.fa 20 (.t 1)),oS 43 (.ld (.one (.con (.slice none 0 0))) (.t 42)),oS 44 (.len none false (.t 43)),oS 45 (.mv (.c (.int .i64 0)))]) (.block 0 (.loop b_cprn_0))) t_cprn_1)))
def k_cprn_3:ACode:=(.seq (.seq (.reg none [oS 25 (.mv (.t 5)),oS 26 (.bin .neq (.t 25) (.c (.int .i64 0))),oS 27 (.mv (.t 26)),oH 28 (.mv (.t 7)) 27,oH 29 (.bin .neq (.t 28) (.c (.int .i64 0))) 27,oS 30 (.pick (.t 27) (.c (.bool true)) (.t 29)),oS 31 (.mv (.t 30)),oH 32 (.fa 29 (.t 1)) 31,oH 33 (.ld (.one (.con (.slice none 0 0))) (.t 32)) 31,oH 34 (.call 47 [(.t 33),(.c (.fn (.func 48) [] []))]) 31,oS 35 (.pick (.t 31) (.c (.bool true)) (.t 34))]) (.cond (.t 35) (.seq (.reg none [oS 2 (.mv (.c (.con (.slice none 0 0)))),oS 3 (.mv (.c (.int .i64 4)))]) .ret) .skip)) k_cprn_4)
def c_cprn:ACode:=(.seq (.reg none [oS 1 (.box 34 31 (.t 0)),oS 2 (.mv (.c (.con (.slice none 0 0)))),oS 3 (.mv (.c (.int .i64 0)))]) (.seq (.reg none [oS 14 (.fa 21 (.t 1)),oS 15 (.ld (.st 4) (.t 14)),oS 16 (.call 46 [(.t 15)]),oS 13 (.mv (.t 16)),oS 17 (.ext (.t 13) 0),oS 18 (.ext (.t 13) 1),oS 4 (.mv (.t 17)),oS 5 (.mv (.t 18))]) (.seq (.reg none [oS 20 (.fa 25 (.t 1)),oS 21 (.ld (.st 4) (.t 20)),oS 22 (.call 46 [(.t 21)]),oS 19 (.mv (.t 22)),oS 23 (.ext (.t 19) 0),oS 24 (.ext (.t 19) 1),oS 6 (.mv (.t 23)),oS 7 (.mv (.t 24))]) k_cprn_3)))
def r_cprn:List ARes:=[(.t 2),(.t 3)]
theorem s_cprn:slimF Tryz.prog Tryz.f29=some (c_cprn,r_cprn):=by kernel_rfl
def c_cprn1:ACode:=(.seq (.reg none [oS 1 (.box 69 2 (.t 0)),oS 2 (.mv (.c (.bool false)))]) (.seq (.reg none [oS 3 (.ld (.st 2) (.t 1)),oS 4 (.call 49 [(.t 3)]),oS 5 (.un .not (.t 4)),oS 2 (.mv (.t 5))]) .ret))
def r_cprn1:List ARes:=[(.t 2)]
theorem s_cprn1:slimF Tryz.prog Tryz.f48=some (c_cprn1,r_cprn1):=by kernel_rfl
def c_cextra:ACode:=(.seq (.reg none [oS 1 (.box 69 2 (.t 0)),oS 2 (.mv (.c (.bool false)))]) (.seq (.reg none [oS 3 (.fa 0 (.t 1)),oS 4 (.ld (.one (.str [])) (.t 3)),oS 5 (.bin .neq (.t 4) (.c (.str []))),oS 6 (.mv (.t 5)),oG 7 (.fa 0 (.t 1)) 6,oG 8 (.ld (.one (.str [])) (.t 7)) 6,oG 9 (.call 77 [(.t 8),(.c (.str [32,10]))]) 6,oG 10 (.un .not (.t 9)) 6,oS 11 (.pick (.t 6) (.t 10) (.c (.bool false))),oS 12 (.mv (.t 11)),oG 13 (.buildSl 9 1 [(.c (.str [116,114,101,101])),(.c (.str [112,97,114,101,110,116])),(.c (.str [97,117,116,104,111,114])),(.c (.str [99,111,109,109,105,116,116,101,114]))]) 12,oG 14 (.fa 0 (.t 1)) 12,oG 15 (.ld (.one (.str [])) (.t 14)) 12,oG 16 (.call 78 [(.t 13),(.t 15)]) 12,oG 17 (.un .not (.t 16)) 12,oS 18 (.pick (.t 12) (.t 17) (.c (.bool false))),oS 2 (.mv (.t 18))]) .ret))
def r_cextra:List ARes:=[(.t 2)]
theorem s_cextra:slimF Tryz.prog Tryz.f49=some (c_cextra,r_cextra):=by kernel_rfl
def c_cright:ACode:=(.seq (.reg none [oS 1 (.box 31 4 (.t 0)),oS 2 (.mv (.c (.bool false)))]) (.seq (.reg none [oS 3 (.fa 0 (.t 1)),oS 4 (.ld (.one (.str [])) (.t 3)),oS 5 (.fa 1 (.t 1)),oS 6 (.ld (.one (.str [])) (.t 5)),oS 7 (.bin .add (.t 4) (.t 6)),oS 8 (.call 77 [(.t 7),(.c (.str [60,62,10]))]),oS 9 (.un .not (.t 8)),oS 10 (.mv (.t 9)),oG 11 (.fa 2 (.t 1)) 10,oG 12 (.ld (.one (.int .i64 0)) (.t 11)) 10,oG 13 (.bin .geq (.t 12) (.c (.int .i64 0))) 10,oS 14 (.pick (.t 10) (.t 13) (.c (.bool false))),oS 15 (.mv (.t 14)),oG 16 (.fa 2 (.t 1)) 15,oG 17 (.ld (.one (.int .i64 0)) (.t 16)) 15,oG 18 (.bin .lss (.t 17) (.c (.int .i64 4611686018427387904))) 15,oS 19 (.pick (.t 15) (.t 18) (.c (.bool false))),oS 20 (.mv (.t 19)),oG 21 (.fa 3 (.t 1)) 20,oG 22 (.ld (.one (.str [])) (.t 21)) 20,oG 23 (.call 97 [(.t 22)]) 20,oS 24 (.pick (.t 20) (.t 23) (.c (.bool false))),oS 2 (.mv (.t 24))]) .ret))
def r_cright:List ARes:=[(.t 2)]
theorem s_cright:slimF Tryz.prog Tryz.f75=some (c_cright,r_cright):=by kernel_rfl
def c_czoned:ACode:=(.seq (.reg none [oS 2 (.mv (.c (.bool false)))]) (.seq (.reg none [oS 3 (.mv (.t 0)),oS 4 (.len none true (.t 3)),oS 5 (.bin .eql (.t 4) (.c (.int .i64 5))),oS 6 (.mv (.t 5)),oG 7 (.mv (.t 0)) 6,oG 8 (.idxS (.t 7) (.c (.int .i64 0))) 6,oG 9 (.bin .eql (.t 8) (.c (.int .u8 43))) 6,oG 10 (.mv (.t 9)) 6,oH 11 (.mv (.t 0)) 10,oH 12 (.idxS (.t 11) (.c (.int .i64 0))) 10,oH 13 (.bin .eql (.t 12) (.c (.int .u8 45))) 10,oG 14 (.pick (.t 10) (.c (.bool true)) (.t 13)) 6,oS 15 (.pick (.t 6) (.t 14) (.c (.bool false))),oS 16 (.mv (.t 15)),oG 17 (.mv (.t 0)) 16,oG 18 (.slS (.t 17) (some (.c (.int .i64 1))) none) 16,oG 19 (.call 116 [(.t 18),(.c (.fn (.func 117) [] []))]) 16,oG 20 (.un .not (.t 19)) 16,oS 21 (.pick (.t 16) (.t 20) (.c (.bool false))),oS 2 (.mv (.t 21))]) .ret))
def r_czoned:List ARes:=[(.t 2)]
theorem s_czoned:slimF Tryz.prog Tryz.f97=some (c_czoned,r_czoned):=by kernel_rfl
def c_ctext:ACode:=(.seq (.reg none [oS 1 (.box 31 4 (.t 0)),oS 2 (.mv (.c (.str []))),oS 3 (.mv (.c (.int .i64 0)))]) (.seq (.seq (.reg none [oS 4 (.ld (.st 4) (.t 1)),oS 5 (.call 75 [(.t 4)]),oS 6 (.un .not (.t 5))]) (.cond (.t 6) (.seq (.reg none [oS 2 (.mv (.c (.str []))),oS 3 (.mv (.c (.int .i64 4)))]) .ret) .skip)) (.seq (.reg (some [(0,false),(1,false),(2,false),(3,false),(4,false),(5,false),(6,false),(7,false),(8,false),(9,false),(10,false),(11,false),(9,false),(9,false),(14,true),(15,true),(16,true)]) [oS 7 (.fa 0 (.t 1)),oS 8 (.ld (.one (.str [])) (.t 7)),oS 9 (.bin .add (.t 8) (.c (.str [32,60]))),oS 10 (.fa 1 (.t 1)),oS 11 (.ld (.one (.str [])) (.t 10)),oS 12 (.bin .add (.t 9) (.t 11)),oS 13 (.bin .add (.t 12) (.c (.str [62,32]))),oS 14 (.fa 2 (.t 1)),oS 15 (.ld (.one (.int .i64 0)) (.t 14)),oS 16 (.call 62 [(.t 15)]),oS 17 (.bin .add (.t 13) (.t 16)),oS 18 (.bin .add (.t 17) (.c (.str [32]))),oS 19 (.fa 3 (.t 1)),oS 20 (.ld (.one (.str [])) (.t 19)),oS 21 (.bin .add (.t 18) (.t 20)),oS 2 (.mv (.t 21)),oS 3 (.mv (.c (.int .i64 0)))]) .ret)))
def r_ctext:List ARes:=[(.t 2),(.t 3)]
theorem s_ctext:slimF Tryz.prog Tryz.f46=some (c_ctext,r_ctext):=by kernel_rfl
def k_cperson_6:ACode:=(.seq (.seq (.reg none [oS 43 (.mv (.t 6)),oS 44 (.un .not (.t 43)),oS 45 (.mv (.t 44)),oH 46 (.mv (.t 8)) 45,oH 47 (.un .not (.t 46)) 45,oS 48 (.pick (.t 45) (.c (.bool true)) (.t 47)),oS 49 (.mv (.t 48)),oH 50 (.mv (.t 11)) 49,oH 51 (.un .not (.t 50)) 49,oS 52 (.pick (.t 49) (.c (.bool true)) (.t 51)),oS 53 (.mv (.t 52)),oH 54 (.mv (.t 13)) 53,oH 55 (.bin .neq (.t 54) (.c (.int .i64 0))) 53,oS 56 (.pick (.t 53) (.c (.bool true)) (.t 55)),oS 57 (.mv (.t 56)),oH 58 (.ld (.st 4) (.t 14)) 57,oH 59 (.call 75 [(.t 58)]) 57,oH 60 (.un .not (.t 59)) 57,oS 61 (.pick (.t 57) (.c (.bool true)) (.t 60))]) (.cond (.t 61) (.seq (.reg none [oS 62 (.build [(1,(.str [])),(1,(.str [])),(1,(.int .i64 0)),(1,(.str []))] []),oN (.st (.st 4) (.t 2) (.t 62)),oS 3 (.mv (.c (.int .i64 4)))]) .ret) .skip)) (.seq (.reg none [oS 63 (.ld (.st 4) (.t 14)),oN (.st (.st 4) (.t 2) (.t 63)),oS 3 (.mv (.c (.int .i64 0)))]) .ret))
def c_cperson:ACode:=(.seq (.reg none [oS 2 (.new 31 [(1,(.str [])),(1,(.str [])),(1,(.int .i64 0)),(1,(.str []))]),oS 3 (.mv (.c (.int .i64 0)))]) (.seq (.reg none [oS 16 (.mv (.t 0)),oS 17 (.call 82 [(.t 16),(.c (.str [32,60]))]),oS 15 (.mv (.t 17)),oS 18 (.ext (.t 15) 0),oS 19 (.ext (.t 15) 1),oS 20 (.ext (.t 15) 2),oS 4 (.mv (.t 18)),oS 5 (.mv (.t 19)),oS 6 (.mv (.t 20))]) (.seq (.reg none [oS 22 (.mv (.t 5)),oS 23 (.call 82 [(.t 22),(.c (.str [62,32]))]),oS 21 (.mv (.t 23)),oS 24 (.ext (.t 21) 0),oS 25 (.ext (.t 21) 1),oS 26 (.ext (.t 21) 2),oS 7 (.mv (.t 24)),oS 5 (.mv (.t 25)),oS 8 (.mv (.t 26))]) (.seq (.reg none [oS 28 (.mv (.t 5)),oS 29 (.call 82 [(.t 28),(.c (.str [32]))]),oS 27 (.mv (.t 29)),oS 30 (.ext (.t 27) 0),oS 31 (.ext (.t 27) 1),oS 32 (.ext (.t 27) 2),oS 9 (.mv (.t 30)),oS 10 (.mv (.t 31)),oS 11 (.mv (.t 32))]) (.seq (.reg none [oS 34 (.mv (.t 9)),oS 35 (.call 106 [(.t 34)]),oS 33 (.mv (.t 35)),oS 36 (.ext (.t 33) 0),oS 37 (.ext (.t 33) 1),oS 12 (.mv (.t 36)),oS 13 (.mv (.t 37))]) (.seq (.reg none [oS 38 (.mv (.t 4)),oS 39 (.mv (.t 7)),oS 40 (.mv (.t 12)),oS 41 (.mv (.t 10)),oS 42 (.build [(1,(.str [])),(1,(.str [])),(1,(.int .i64 0)),(1,(.str []))] [(0,(1,(.t 38))),(1,(1,(.t 39))),(2,(1,(.t 40))),(3,(1,(.t 41)))]),oS 14 (.new 31 [(1,(.str [])),(1,(.str [])),(1,(.int .i64 0)),(1,(.str []))]),oN (.st (.st 4) (.t 14) (.t 42))]) k_cperson_6))))))
def r_cperson:List ARes:=[(.c 2 (.st 4)),(.t 3)]
theorem s_cperson:slimF Tryz.prog Tryz.f114=some (c_cperson,r_cperson):=by kernel_rfl
def b_cline_0:ACode:=(.seq (.reg none [oS 23 (.bin .lss (.t 22) (.t 21))]) (.seq (.cond (.t 23) .skip (.exit 0)) (.seq (.block 1 (.seq (.reg none [oS 24 (.mv (.t 22)),oS 25 (.ia 1 (.str []) (.t 20) (.t 22)),oS 26 (.ld (.one (.str [])) (.t 25)),oS 9 (.mv (.t 24)),oS 10 (.mv (.t 26))]) (.seq (.reg none [oS 27 (.mv (.t 8)),oS 28 (.mv (.t 27)),oG 29 (.mv (.t 6)) 28,oG 30 (.mv (.t 10)) 28,oG 31 (.call 84 [(.t 29),(.t 30)]) 28,oS 32 (.pick (.t 28) (.t 31) (.c (.bool false)))]) (.cond (.t 32) (.seq (.reg none [oS 33 (.mv (.t 0)),oS 34 (.mv (.t 7)),oS 35 (.nck (.t 33)),oS 36 (.fa 0 (.t 35)),oN (.st (.one (.str [])) (.t 36) (.t 34))]) (.seq (.reg none [oS 37 (.mv (.t 6)),oS 38 (.mv (.t 10)),oS 39 (.len none true (.t 38)),oS 40 (.slS (.t 37) (some (.t 39)) none),oS 41 (.mv (.t 9)),oS 4 (.mv (.t 40)),oS 5 (.mv (.t 41))]) .ret)) .skip)))) (.reg none [oS 42 (.bin .add (.t 22) (.c (.int .i64 1))),oS 22 (.mv (.t 42))]))))
def t_cline_0:ACode:=(.seq (.reg none [oS 4 (.mv (.c (.str []))),oS 5 (.mv (.c (.int .i64 (-1))))]) .ret)
def c_cline:ACode:=(.seq (.reg none [oS 4 (.mv (.c (.str []))),oS 5 (.mv (.c (.int .i64 0)))]) (.seq (.reg none [oS 12 (.mv (.t 0)),oS 13 (.nck (.t 12)),oS 14 (.fa 0 (.t 13)),oS 15 (.ld (.one (.str [])) (.t 14)),oS 16 (.call 82 [(.t 15),(.c (.str [10]))]),oS 11 (.mv (.t 16)),oS 17 (.ext (.t 11) 0),oS 18 (.ext (.t 11) 1),oS 19 (.ext (.t 11) 2),oS 6 (.mv (.t 17)),oS 7 (.mv (.t 18)),oS 8 (.mv (.t 19))]) (.seq (.seq (.reg none [oS 20 (.mv (.t 1)),oS 21 (.len none false (.t 20)),oS 22 (.mv (.c (.int .i64 0)))]) (.block 0 (.loop b_cline_0))) t_cline_0)))
def r_cline:List ARes:=[(.t 4),(.t 5)]
theorem s_cline:slimF Tryz.prog Tryz.f115=some (c_cline,r_cline):=by kernel_rfl
def c_cmust:ACode:=(.seq (.reg none [oS 4 (.mv (.c (.str [])))]) (.seq (.reg none [oS 8 (.mv (.t 0)),oS 9 (.mv (.t 1)),oS 10 (.buildSl 9 1 [(.t 9)]),oS 11 (.call 115 [(.t 8),(.t 10)]),oS 7 (.mv (.t 11)),oS 12 (.ext (.t 7) 0),oS 13 (.ext (.t 7) 1),oS 5 (.mv (.t 12)),oS 6 (.mv (.t 13))]) (.seq (.seq (.reg none [oS 14 (.mv (.t 6)),oS 15 (.bin .lss (.t 14) (.c (.int .i64 0)))]) (.cond (.t 15) (.reg none [oS 16 (.mv (.t 0)),oS 17 (.nck (.t 16)),oS 18 (.fa 1 (.t 17)),oN (.st (.one (.bool false)) (.t 18) (.c (.bool true)))]) .skip)) (.seq (.reg none [oS 19 (.mv (.t 5)),oS 4 (.mv (.t 19))]) .ret))))
def r_cmust:List ARes:=[(.t 4)]
theorem s_cmust:slimF Tryz.prog Tryz.f95=some (c_cmust,r_cmust):=by kernel_rfl
def k_cid_2:ACode:=(.seq (.reg none [oS 16 (.mv (.t 0)),oS 17 (.mv (.t 0)),oS 18 (.nck (.t 17)),oS 19 (.fa 0 (.t 18)),oS 20 (.fa 1 (.t 19)),oS 21 (.ld (.one (.bool false)) (.t 20)),oS 22 (.mv (.t 21)),oH 23 (.mv (.t 6)) 22,oH 24 (.bin .neq (.t 23) (.c (.int .i64 0))) 22,oS 25 (.pick (.t 22) (.c (.bool true)) (.t 24)),oS 26 (.nck (.t 16)),oS 27 (.fa 0 (.t 26)),oS 28 (.fa 1 (.t 27)),oN (.st (.one (.bool false)) (.t 28) (.t 25))]) (.seq (.reg none [oS 29 (.ld (.arr 20) (.t 5)),oN (.st (.arr 20) (.t 4) (.t 29))]) .ret))
def c_cid:ACode:=(.seq (.reg none [oS 4 (.new 29 [(20,(.blob (List.replicate 20 (.int .u8 0))))])]) (.seq (.reg none [oS 8 (.mv (.t 0)),oS 9 (.nck (.t 8)),oS 10 (.fa 0 (.t 9)),oS 11 (.mv (.t 1)),oS 12 (.call 95 [(.t 10),(.t 11)]),oS 13 (.call 113 [(.t 12)]),oS 7 (.mv (.t 13)),oS 14 (.ext (.t 7) 0),oS 15 (.ext (.t 7) 1),oS 5 (.new 29 [(20,(.blob (List.replicate 20 (.int .u8 0))))]),oN (.st (.arr 20) (.t 5) (.t 14)),oS 6 (.mv (.t 15))]) k_cid_2))
def r_cid:List ARes:=[(.c 4 (.arr 20))]
theorem s_cid:slimF Tryz.prog Tryz.f92=some (c_cid,r_cid):=by kernel_rfl
def k_cwho_2:ACode:=(.seq (.reg none [oS 16 (.mv (.t 0)),oS 17 (.mv (.t 0)),oS 18 (.nck (.t 17)),oS 19 (.fa 0 (.t 18)),oS 20 (.fa 1 (.t 19)),oS 21 (.ld (.one (.bool false)) (.t 20)),oS 22 (.mv (.t 21)),oH 23 (.mv (.t 6)) 22,oH 24 (.bin .neq (.t 23) (.c (.int .i64 0))) 22,oS 25 (.pick (.t 22) (.c (.bool true)) (.t 24)),oS 26 (.nck (.t 16)),oS 27 (.fa 0 (.t 26)),oS 28 (.fa 1 (.t 27)),oN (.st (.one (.bool false)) (.t 28) (.t 25))]) (.seq (.reg none [oS 29 (.ld (.st 4) (.t 5)),oN (.st (.st 4) (.t 4) (.t 29))]) .ret))
def c_cwho:ACode:=(.seq (.reg none [oS 4 (.new 31 [(1,(.str [])),(1,(.str [])),(1,(.int .i64 0)),(1,(.str []))])]) (.seq (.reg none [oS 8 (.mv (.t 0)),oS 9 (.nck (.t 8)),oS 10 (.fa 0 (.t 9)),oS 11 (.mv (.t 1)),oS 12 (.call 95 [(.t 10),(.t 11)]),oS 13 (.call 114 [(.t 12)]),oS 7 (.mv (.t 13)),oS 14 (.ext (.t 7) 0),oS 15 (.ext (.t 7) 1),oS 5 (.new 31 [(1,(.str [])),(1,(.str [])),(1,(.int .i64 0)),(1,(.str []))]),oN (.st (.st 4) (.t 5) (.t 14)),oS 6 (.mv (.t 15))]) k_cwho_2))
def r_cwho:List ARes:=[(.c 4 (.st 4))]
theorem s_cwho:slimF Tryz.prog Tryz.f93=some (c_cwho,r_cwho):=by kernel_rfl
def c_cfe:ACode:=(.seq (.reg none [oS 4 (.mv (.c (.bool false)))]) (.seq (.reg none [oS 5 (.mv (.t 0)),oS 6 (.mv (.t 1)),oS 7 (.call 76 [(.t 5),(.t 6)]),oS 8 (.bin .geq (.t 7) (.c (.int .i64 0))),oS 4 (.mv (.t 8))]) .ret))
def r_cfe:List ARes:=[(.t 4)]
theorem s_cfe:slimF Tryz.prog Tryz.f47=some (c_cfe,r_cfe):=by kernel_rfl
def b_ife_0:ACode:=(.seq (.reg none [oS 9 (.bin .lss (.t 8) (.t 7))]) (.seq (.cond (.t 9) .skip (.exit 0)) (.seq (.block 1 (.seq (.reg none [oS 10 (.mv (.t 8)),oS 5 (.mv (.t 10))]) (.seq (.reg none [oS 11 (.mv (.t 1)),oS 12 (.mv (.t 0)),oS 13 (.mv (.t 5)),oS 14 (.ia 2 (.agg [(1,(.str [])),(1,(.str []))]) (.t 12) (.t 13)),oS 15 (.ld (.st 2) (.t 14)),oS 16 (.callv (.t 11) [(.t 15)])]) (.cond (.t 16) (.seq (.reg none [oS 17 (.mv (.t 5)),oS 4 (.mv (.t 17))]) .ret) .skip)))) (.reg none [oS 18 (.bin .add (.t 8) (.c (.int .i64 1))),oS 8 (.mv (.t 18))]))))
def t_ife_0:ACode:=(.seq (.reg none [oS 4 (.mv (.c (.int .i64 (-1))))]) .ret)
def c_ife:ACode:=(.seq (.reg none [oS 4 (.mv (.c (.int .i64 0)))]) (.seq (.seq (.reg none [oS 6 (.mv (.t 0)),oS 7 (.len none false (.t 6)),oS 8 (.mv (.c (.int .i64 0)))]) (.block 0 (.loop b_ife_0))) t_ife_0))
def r_ife:List ARes:=[(.t 4)]
theorem s_ife:slimF Tryz.prog Tryz.f76=some (c_ife,r_ife):=by kernel_rfl
def c_cons:ACode:=(.seq (.reg none [oS 4 (.mv (.c (.bool false)))]) (.seq (.reg none [oS 5 (.mv (.t 0)),oS 6 (.mv (.t 1)),oS 7 (.call 99 [(.t 5),(.t 6)]),oS 8 (.bin .geq (.t 7) (.c (.int .i64 0))),oS 4 (.mv (.t 8))]) .ret))
def r_cons:List ARes:=[(.t 4)]
theorem s_cons:slimF Tryz.prog Tryz.f78=some (c_cons,r_cons):=by kernel_rfl
def b_ixs_0:ACode:=(.seq (.reg none [oS 9 (.bin .lss (.t 8) (.t 7))]) (.seq (.cond (.t 9) .skip (.exit 0)) (.seq (.block 1 (.seq (.reg none [oS 10 (.mv (.t 8)),oS 5 (.mv (.t 10))]) (.seq (.reg none [oS 11 (.mv (.t 1)),oS 12 (.mv (.t 0)),oS 13 (.mv (.t 5)),oS 14 (.ia 1 (.str []) (.t 12) (.t 13)),oS 15 (.ld (.one (.str [])) (.t 14)),oS 16 (.bin .eql (.t 11) (.t 15))]) (.cond (.t 16) (.seq (.reg none [oS 17 (.mv (.t 5)),oS 4 (.mv (.t 17))]) .ret) .skip)))) (.reg none [oS 18 (.bin .add (.t 8) (.c (.int .i64 1))),oS 8 (.mv (.t 18))]))))
def t_ixs_0:ACode:=(.seq (.reg none [oS 4 (.mv (.c (.int .i64 (-1))))]) .ret)
def c_ixs:ACode:=(.seq (.reg none [oS 4 (.mv (.c (.int .i64 0)))]) (.seq (.seq (.reg none [oS 6 (.mv (.t 0)),oS 7 (.len none false (.t 6)),oS 8 (.mv (.c (.int .i64 0)))]) (.block 0 (.loop b_ixs_0))) t_ixs_0))
def r_ixs:List ARes:=[(.t 4)]
theorem s_ixs:slimF Tryz.prog Tryz.f99=some (c_ixs,r_ixs):=by kernel_rfl
def c_scany:ACode:=(.seq (.reg none [oS 4 (.mv (.c (.bool false)))]) (.seq (.reg none [oS 5 (.mv (.t 0)),oS 6 (.mv (.t 1)),oS 7 (.call 98 [(.t 5),(.t 6)]),oS 8 (.bin .geq (.t 7) (.c (.int .i64 0))),oS 4 (.mv (.t 8))]) .ret))
def r_scany:List ARes:=[(.t 4)]
theorem s_scany:slimF Tryz.prog Tryz.f77=some (c_scany,r_scany):=by kernel_rfl
end Go.Proofs.YtgaehhechonegaaGreatDoor
